/- Equations that are peeled: what the document tells, and the law. -/
import Derived.Test.YtleagoeimkcekaaDoorPmTab
import Derived.KernelRfl
import Derived.Test.YtleagoeimkcekaaDoorProg
import Derived.Test.YtleagoeimkcekaaDoorPeel
set_option autoImplicit false
set_option maxRecDepth 100000
set_option maxHeartbeats 4000000
set_option linter.unusedVariables false
set_option linter.unusedSimpArgs false
namespace Go.Proofs.YtleagoeimkcekaaDoor
open Go Go.PM Go.Proofs Go.Shelf Go.PM.Row Go.PM.Bits Go.PM.Bit Go.PM.Blk
def mode10 : FuncId → Nat := fun f => 0
/-! The document's peeling. -/
theorem shE_iff {a : List Eqn} : shE a = true ↔ a.length ≤ 1000000 ∧ ∀ e, e ∈ a → e.1.2.length ≤ 1000000 := by rw [shE_eq]; unfold shEI; simp
theorem one_iff {n : Int} {ws : List Int} (hok : okW ws = true) (h : rtS n ws = true) : 0 ≤ oneS n ws ↔ (plcR n ws).length = 1 := by
  rw [← pl_val hok h, oneS_eq]
  unfold oneI
  by_cases hl : (plS ws).length = 1
  · rw [if_pos ⟨h, hl⟩]
    have hne : plc (val ws) n.toNat ≠ [] := by
      rw [← pl_plc hok h]; intro e; rw [e] at hl; simp at hl
    have := plc_head hne
    rw [← pl_plc hok h] at this
    exact ⟨fun _ => hl, fun _ => this.1⟩
  · rw [if_neg (fun g => hl g.2)]
    exact ⟨fun g => by omega, fun g => absurd g hl⟩
theorem one_at {n : Int} {ws : List Int} (hok : okW ws = true) (h : 0 ≤ oneS n ws) : ix (plcR n ws) 0 = some (oneS n ws) := by
  have hr := (one_spec hok h).1
  have hl := (one_iff hok hr).1 h
  rw [← pl_val hok hr] at hl ⊢
  rw [oneS_eq]
  unfold oneI
  rw [if_pos ⟨hr, hl⟩]
  cases hp : plS ws with
  | nil => rw [hp] at hl; simp at hl
  | cons x t => rfl
theorem rt_guard {n : Int} {ws : List Int} (hok : okW ws = true) (h : rtS n ws = true) : (okW ws && decide (n ≤ 64 * (ws.length : Int)) && decide (ws.length ≤ 1000)) = true := by
  have h1 := rt_le h
  have h2 := rt_lens h
  have h3 := nw_cast (rtS_iff.1 h).1.1
  rw [hok]
  simp
  omega
theorem rtE_iff {r : List Eqn} : rtE r = true ↔ ∀ e, e ∈ r → okW e.1.2 = true ∧ rtS e.1.1 e.1.2 = true := by rw [rtE_eq]; unfold rtEI; simp
theorem PInv.rtE {z : Int} {r : List Eqn} {l : List Int} (h : PInv z r l) : rtE r = true := rtE_iff.2 fun e he => (h.2.2.1 e he).2
theorem allOk_iff {r : List Eqn} {i : Int} {s : ByteArray} : allOk r i s = true ↔ r.length ≤ 1000 ∧ 0 ≤ i ∧ s.size ≤ 64 ∧ ∀ e, e ∈ r → okW e.1.2 = true ∧ rtS e.1.1 e.1.2 = true ∧ i < e.1.1 ∧ e.2.size = s.size := by rw [allOk_eq]; unfold allI; simp [and_assoc]
theorem places_ge : ∀ (l : List Int) (j : Int) (y : Int), y ∈ placesFrom l j → j ≤ y
  | [], j, y, h => by simp [placesFrom] at h
  | x :: t, j, y, h => by
    rw [placesFrom] at h
    split at h
    · rcases List.mem_cons.1 h with rfl | h
      · omega
      · have := places_ge t (j + 1) y h; omega
    · have := places_ge t (j + 1) y h; omega
theorem putA_small {P : List Int} {j : Int} (h : ∀ y, y ∈ P → j < y) : putA P j = j :: P := by
  cases P with
  | nil => rfl
  | cons y t => rw [putA, if_pos (h y List.mem_cons_self)]
theorem putA_set : ∀ (l : List Int) (i : Nat) (j : Int), i < l.length → l.getD i 0 ≠ 1 → putA (placesFrom l j) (j + (i : Int)) = placesFrom (l.set i 1) j
  | [], i, j, h, _ => by simp at h
  | x :: t, 0, j, h, hx => by
    have hx : x ≠ 1 := hx
    rw [List.set_cons_zero, placesFrom, placesFrom, if_neg hx, if_pos rfl, show j + ((0 : Nat) : Int) = j by omega]
    exact putA_small fun y hy => by have := places_ge t (j + 1) y hy; omega
  | x :: t, i + 1, j, h, hx => by
    have ih := putA_set t i (j + 1) (by simpa using h) hx
    rw [List.set_cons_succ, placesFrom, placesFrom, show j + ((i + 1 : Nat) : Int) = j + 1 + (i : Int) by omega]
    by_cases hc : x = 1
    · rw [if_pos hc, if_pos hc, putA, if_neg (by omega), ih]
    · rw [if_neg hc, if_neg hc, ih]
theorem putT_small {P : List Int} {Q : List ByteArray} {j : Int} {s : ByteArray} (hl : Q.length = P.length) (h : ∀ y, y ∈ P → j < y) : putT P Q j s = s :: Q := by
  cases P with
  | nil => cases Q with
    | nil => rfl
    | cons q u => simp at hl
  | cons y t => cases Q with
    | nil => simp at hl
    | cons q u => rw [putT, if_pos (h y List.mem_cons_self)]
theorem putT_set (s : ByteArray) : ∀ (l : List Int) (t : List ByteArray) (i : Nat) (j : Int), t.length = l.length → i < l.length → l.getD i 0 ≠ 1 → putT (placesFrom l j) (toldFrom l t) (j + (i : Int)) s = toldFrom (l.set i 1) (t.set i s)
  | [], t, i, j, _, h, _ => by simp at h
  | x :: l, [], i, j, ht, _, _ => by simp at ht
  | x :: l, y :: t, 0, j, ht, h, hx => by
    have hx : x ≠ 1 := hx
    rw [List.set_cons_zero, List.set_cons_zero, placesFrom, toldFrom, toldFrom, if_neg hx, if_neg hx, if_pos rfl, show j + ((0 : Nat) : Int) = j by omega]
    exact putT_small (places_len l t (j + 1) (by simpa using ht)) fun y hy => by have := places_ge l (j + 1) y hy; omega
  | x :: l, y :: t, i + 1, j, ht, h, hx => by
    have ih := putT_set s l t i (j + 1) (by simpa using ht) (by simpa using h) hx
    rw [List.set_cons_succ, List.set_cons_succ, placesFrom, toldFrom, toldFrom, show j + ((i + 1 : Nat) : Int) = j + 1 + (i : Int) by omega]
    by_cases hc : x = 1
    · rw [if_pos hc, if_pos hc, if_pos hc, putT, if_neg (by omega), ih]
    · rw [if_neg hc, if_neg hc, if_neg hc, ih]
theorem places_zero : ∀ (m : Nat) (j : Int), placesFrom (List.replicate m 0) j = []
  | 0, j => rfl
  | m + 1, j => by rw [List.replicate_succ, placesFrom, if_neg (by decide), places_zero m]
theorem told_zero : ∀ (m : Nat) (t : List ByteArray), toldFrom (List.replicate m 0) t = []
  | 0, t => by cases t <;> rfl
  | m + 1, [] => rfl
  | m + 1, y :: t => by rw [List.replicate_succ, toldFrom, if_neg (by decide), told_zero m]
theorem leftR {e : Eqn} (hok : okW e.1.2 = true) (h : rtS e.1.1 e.1.2 = true) {R : Type} (hs : e.2.size ≤ 64) (x y : Option R) : (if decide (((((plcR e.1.1 e.1.2).length : Nat) : Int) : Int) > 0) = true then x else grd (decide (e.2.size ≤ 1000000)) (br (!(nought e.2)) x y)) = if leftB e = true then x else y := by
  rw [grd_of (by simp; omega), br_if, leftB_eq, ← pl_val hok h]
  unfold leftI
  rw [if_pos h]
  by_cases g : 0 < (((plS e.1.2).length : Nat) : Int)
  · simp only [g, gt_iff_lt, decide_true, Bool.true_or, if_true]
  · simp only [g, gt_iff_lt, decide_false, Bool.false_or, Bool.false_eq_true, if_false]
/-! downpour/downpourref15.Right -/
noncomputable def refPRightF_s2 {R : Type} (w5 : Int) (w4 : Int) (r : List ((Int × List Int) × ByteArray)) (z : Int) (c0 : Option R) (c1 : Option R) (c2 : Option R) (c3 : Option R) (c4 : Int → Int → Option R) (c5 : Option R) : Option R :=
  br (decide (w5 < w4))
    (bnd (ix r w5) fun e8 =>
    br (e8.1.1 != z)
      (c0)
      (grd (okW e8.1.2) <|
      br (!(rtS e8.1.1 e8.1.2))
        (c1)
        (bnd (ix r 0) fun e9 =>
        br ((((e8.2.size : Nat) : Int) : Int) != ((e9.2.size : Nat) : Int))
          (c2)
          (br (decide ((((e8.2.size : Nat) : Int) : Int) > 64))
            (c3)
            (c4 w4 (IntKind.i64.wrap (w5 + 1)))))))
    (c5)
theorem refPRightF_s2_eq (fuel : Nat) (k : Nat) (K : Ex → St → Option Out) (w5 : Int) (w4 : Int) (r : List ((Int × List Int) × ByteArray)) (z : Int) : lpN (sub (bodyOf Tryd.prog 49) [1, 0, 1, 0, 0]) (fnX Tryd.prog mode10 T_Peel fuel 53 0) 9002801208229907 [0, 1, 4, 7, 8, 9] (k + 1) ⟨[(0, .s (.int .i64 z)), (1, .lt (.pair (.pair (.int .i64) (.sl (.int .u64))) .str) r), (4, .s (.bool false)), (7, .lt (.pair (.pair (.int .i64) (.sl (.int .u64))) .str) r), (8, .s (.int .i64 w4)), (9, .s (.int .i64 w5))], [], 0, none⟩ K = refPRightF_s2 w5 w4 r z (K .ret ⟨[(0, .s (.int .i64 z)), (1, .lt (.pair (.pair (.int .i64) (.sl (.int .u64))) .str) r), (4, .s (.bool false))], [], 0, none⟩) (K .ret ⟨[(0, .s (.int .i64 z)), (1, .lt (.pair (.pair (.int .i64) (.sl (.int .u64))) .str) r), (4, .s (.bool false))], [], 0, none⟩) (K .ret ⟨[(0, .s (.int .i64 z)), (1, .lt (.pair (.pair (.int .i64) (.sl (.int .u64))) .str) r), (4, .s (.bool false))], [], 0, none⟩) (K .ret ⟨[(0, .s (.int .i64 z)), (1, .lt (.pair (.pair (.int .i64) (.sl (.int .u64))) .str) r), (4, .s (.bool false))], [], 0, none⟩) (fun (a10 : Int) (a11 : Int) => lpN (sub (bodyOf Tryd.prog 49) [1, 0, 1, 0, 0]) (fnX Tryd.prog mode10 T_Peel fuel 53 0) 9002801208229907 [0, 1, 4, 7, 8, 9] k ⟨[(0, .s (.int .i64 z)), (1, .lt (.pair (.pair (.int .i64) (.sl (.int .u64))) .str) r), (4, .s (.bool false)), (7, .lt (.pair (.pair (.int .i64) (.sl (.int .u64))) .str) r), (8, .s (.int .i64 a10)), (9, .s (.int .i64 a11))], [], 0, none⟩ K) (K (.exit 0) ⟨[(0, .s (.int .i64 z)), (1, .lt (.pair (.pair (.int .i64) (.sl (.int .u64))) .str) r), (4, .s (.bool false))], [], 0, none⟩) := by kernel_rfl
noncomputable def refPRightF_l1 {R : Type} (fuel : Nat) (z : Int) (r : List ((Int × List Int) × ByteArray)) (k0 : Option R) (k1 : Option R) : Nat → Int → Int → Option R
  | 0, _, _ => none
  | k + 1, w4, w5 =>
    (refPRightF_s2 w5 w4 r z (k0) (k0) (k0) (k0) (fun (a10 : Int) (a11 : Int) => ( refPRightF_l1 fuel z r k0 k1 k a10 a11 )) (k1))
theorem refPRightF_l1_eq (fuel : Nat) (z : Int) (r : List ((Int × List Int) × ByteArray)) (K : Ex → St → Option Out) : ∀ (k : Nat) (w4 : Int) (w5 : Int), lpN (sub (bodyOf Tryd.prog 49) [1, 0, 1, 0, 0]) (fnX Tryd.prog mode10 T_Peel fuel 53 0) 9002801208229907 [0, 1, 4, 7, 8, 9] k ⟨[(0, .s (.int .i64 z)), (1, .lt (.pair (.pair (.int .i64) (.sl (.int .u64))) .str) r), (4, .s (.bool false)), (7, .lt (.pair (.pair (.int .i64) (.sl (.int .u64))) .str) r), (8, .s (.int .i64 w4)), (9, .s (.int .i64 w5))], [], 0, none⟩ K = refPRightF_l1 fuel z r (K .ret ⟨[(0, .s (.int .i64 z)), (1, .lt (.pair (.pair (.int .i64) (.sl (.int .u64))) .str) r), (4, .s (.bool false))], [], 0, none⟩) (K (.exit 0) ⟨[(0, .s (.int .i64 z)), (1, .lt (.pair (.pair (.int .i64) (.sl (.int .u64))) .str) r), (4, .s (.bool false))], [], 0, none⟩) k w4 w5
  | 0, _, _ => rfl
  | k + 1, w4, w5 => by
    unfold refPRightF_l1
    exact (refPRightF_s2_eq fuel k K w5 w4 r z).trans (congr (congr (congr (congr (congr (congr (Eq.refl (refPRightF_s2 (R := Out) w5 w4 r z)) (rfl)) (rfl)) (rfl)) (rfl)) (funext fun a10 => funext fun a11 => refPRightF_l1_eq fuel z r K k a10 a11)) (rfl))
noncomputable def refPRightF_s3 {R : Type} (z : Int) (r : List ((Int × List Int) × ByteArray)) (c0 : Bool → Option R) : Option R :=
  c0 false
theorem refPRightF_s3_eq (fuel : Nat)  (z : Int) (r : List ((Int × List Int) × ByteArray)) : (kont (fnX Tryd.prog mode10 T_Peel fuel 53 0) (bodyOf Tryd.prog 49) [1, 0, 1, 0] 16 (endK Tryd.prog 0 0 49)) .ret ⟨[(0, .s (.int .i64 z)), (1, .lt (.pair (.pair (.int .i64) (.sl (.int .u64))) .str) r), (4, .s (.bool false))], [], 0, none⟩ = refPRightF_s3 z r (fun (a14 : Bool) => some (.s (.bool a14), [])) := by kernel_rfl
noncomputable def refPRightF_s4 {R : Type} (z : Int) (r : List ((Int × List Int) × ByteArray)) (c0 : Bool → Option R) : Option R :=
  br (decide (z ≥ 1))
    (br (decide (z ≤ 64))
      (c0 (decide ((((r.length : Nat) : Int) : Int) ≤ 64)))
      (c0 false))
    (c0 false)
theorem refPRightF_s4_eq (fuel : Nat)  (z : Int) (r : List ((Int × List Int) × ByteArray)) : (kont (fnX Tryd.prog mode10 T_Peel fuel 53 0) (bodyOf Tryd.prog 49) [1, 0, 1, 0] 16 (endK Tryd.prog 0 0 49)) (.exit 0) ⟨[(0, .s (.int .i64 z)), (1, .lt (.pair (.pair (.int .i64) (.sl (.int .u64))) .str) r), (4, .s (.bool false))], [], 0, none⟩ = refPRightF_s4 z r (fun (a15 : Bool) => some (.s (.bool a15), [])) := by kernel_rfl
noncomputable def refPRightF_s1 {R : Type} (r : List ((Int × List Int) × ByteArray)) (z : Int) (c0 : Int → Int → Option R) : Option R :=
  c0 ((r.length : Nat) : Int) 0
theorem refPRightF_s1_eq (fuel : Nat)  (r : List ((Int × List Int) × ByteArray)) (z : Int) : callN Tryd.prog mode10 T_Peel fuel 49 [.s (.int .i64 z), .lt (.pair (.pair (.int .i64) (.sl (.int .u64))) .str) r] [] = refPRightF_s1 r z (fun (a12 : Int) (a13 : Int) => lpN (sub (bodyOf Tryd.prog 49) [1, 0, 1, 0, 0]) (fnX Tryd.prog mode10 T_Peel fuel 53 0) 9002801208229907 [0, 1, 4, 7, 8, 9] fuel ⟨[(0, .s (.int .i64 z)), (1, .lt (.pair (.pair (.int .i64) (.sl (.int .u64))) .str) r), (4, .s (.bool false)), (7, .lt (.pair (.pair (.int .i64) (.sl (.int .u64))) .str) r), (8, .s (.int .i64 a12)), (9, .s (.int .i64 a13))], [], 0, none⟩ (kont (fnX Tryd.prog mode10 T_Peel fuel 53 0) (bodyOf Tryd.prog 49) [1, 0, 1, 0] 16 (endK Tryd.prog 0 0 49))) := by kernel_rfl
noncomputable def refPRightF {R : Type} (fuel : Nat) (z : Int) (r : List ((Int × List Int) × ByteArray)) (r0 : Bool → Option R) : Option R :=
  (refPRightF_s1 r z (fun (a12 : Int) (a13 : Int) => (refPRightF_l1 fuel z r ((refPRightF_s3 z r (fun (a14 : Bool) => r0 a14))) ((refPRightF_s4 z r (fun (a15 : Bool) => r0 a15))) fuel a12 a13)))
theorem refPRightF_eq (fuel : Nat) (z : Int) (r : List ((Int × List Int) × ByteArray)) : callN Tryd.prog mode10 T_Peel fuel 49 [.s (.int .i64 z), .lt (.pair (.pair (.int .i64) (.sl (.int .u64))) .str) r] [] = refPRightF fuel z r (fun (z0 : Bool) => some (.s (.bool z0), [])) := by
  unfold refPRightF
  exact (refPRightF_s1_eq fuel  r z).trans (congr (Eq.refl (refPRightF_s1 (R := Out) r z)) (funext fun a12 => funext fun a13 => (refPRightF_l1_eq fuel z r (kont (fnX Tryd.prog mode10 T_Peel fuel 53 0) (bodyOf Tryd.prog 49) [1, 0, 1, 0] 16 (endK Tryd.prog 0 0 49)) fuel a12 a13).trans (congrFun (congrFun (congrFun (congr (congr (Eq.refl (refPRightF_l1 (R := Out) fuel z r)) ((refPRightF_s3_eq fuel  z r))) ((refPRightF_s4_eq fuel  z r))) fuel) a12) a13)))
theorem refPRight_loop {R : Type} (fuel : Nat) (z : Int) (r : List Eqn) (hok : okE r = true) (hx : r.length ≤ 1000000) (k0 k1 : Option R) : ∀ (k j : Nat), j ≤ r.length → r.length < j + k → refPRightF_l1 fuel z r k0 k1 k (r.length : Int) (j : Int) = if (∀ e, e ∈ r.drop j → e.1.1 = z ∧ rtS e.1.1 e.1.2 = true ∧ e.2.size = (r.headD noE).2.size ∧ e.2.size ≤ 64) then k1 else k0
  | 0, j, h1, h2 => by omega
  | k + 1, j, h1, h2 => by
    unfold refPRightF_l1 refPRightF_s2
    rw [br_if]
    by_cases hc : j < r.length
    · have h0 : ix r 0 = some (r.headD noE) := by
        cases r with
        | nil => simp at hc
        | cons e t => rfl
      have hw := okE_iff.1 hok _ (List.getElem_mem hc)
      rw [if_pos (by simpa using hc), bnd_of ((ix_nat r j).trans (List.getElem?_eq_getElem hc)), br_if, grd_of hw, br_if, bnd_of h0, br_if, br_if, List.drop_eq_getElem_cons hc, wrap_i64 (by omega) (by omega), show (j : Int) + 1 = ((j + 1 : Nat) : Int) by omega]
      dsimp only
      rw [refPRight_loop fuel z r hok hx k0 k1 k (j + 1) (by omega) (by omega)]
      generalize r[j] = x
      generalize r.drop (j + 1) = t
      generalize (r.headD noE).2.size = q
      by_cases g : x.1.1 = z ∧ rtS x.1.1 x.1.2 = true ∧ x.2.size = q ∧ x.2.size ≤ 64
      · obtain ⟨g1, g2, g3, g4⟩ := g
        rw [if_neg (by simp [g1]), if_neg (by simp [g2]), if_neg (by simp [g3]), if_neg (by simp; omega)]
        by_cases ht : ∀ e, e ∈ t → e.1.1 = z ∧ rtS e.1.1 e.1.2 = true ∧ e.2.size = q ∧ e.2.size ≤ 64
        · rw [if_pos ht, if_pos fun e he => by
            rcases List.mem_cons.1 he with rfl | he
            · exact ⟨g1, g2, g3, g4⟩
            · exact ht e he]
        · rw [if_neg ht, if_neg fun h => ht fun e he => h e (List.mem_cons_of_mem _ he)]
      · have hn : ¬ ∀ e, e ∈ x :: t → e.1.1 = z ∧ rtS e.1.1 e.1.2 = true ∧ e.2.size = q ∧ e.2.size ≤ 64 := fun h => g (h x List.mem_cons_self)
        rw [if_neg hn]
        split
        · rfl
        · split
          · rfl
          · split
            · rfl
            · split
              · rfl
              · rename_i a1 a2 a3 a4
                exfalso
                simp at a1 a2 a3 a4
                exact g ⟨a1, a2, by omega, by omega⟩
    · rw [if_neg (by simpa using hc), List.drop_eq_nil_of_le (by omega)]
      simp
theorem refPRight_fact (z : Int) (r : List ((Int × List Int) × ByteArray)) (hg : (okE r && decide (List.length (α := Eqn) r ≤ 1000)) = true) : Fact Tryd.prog gTab 49 [.s (.int .i64 z), .lt (.pair (.pair (.int .i64) (.sl (.int .u64))) .str) r] [] (.s (.bool (mayB z r)), []) := by
  rw [Bool.and_eq_true] at hg
  obtain ⟨hok, hx⟩ := hg
  have hx := of_decide_eq_true hx
  refine callN_fact hN hM T_Peel_ok (n := 1001) (mode := mode10) ?_
  rw [refPRightF_eq]
  unfold refPRightF refPRightF_s1
  dsimp only
  have := refPRight_loop (R := Out) 1001 z r hok (by omega)
  refine (this _ _ 1001 0 (by omega) (by omega)).trans ?_
  rw [List.drop_zero, mayB_eq]
  unfold mayI refPRightF_s3 refPRightF_s4
  by_cases ha : ∀ e, e ∈ r → e.1.1 = z ∧ rtS e.1.1 e.1.2 = true ∧ e.2.size = (r.headD noE).2.size ∧ e.2.size ≤ 64
  · have hall : (r.all fun e => decide (e.1.1 = z) && rtS e.1.1 e.1.2 && decide (e.2.size = (r.headD noE).2.size) && decide (e.2.size ≤ 64)) = true := by
      rw [List.all_eq_true]
      intro e he
      obtain ⟨a1, a2, a3, a4⟩ := ha e he
      simp only [decide_eq_true a1, a2, decide_eq_true a3, decide_eq_true a4, Bool.and_self]
    rw [if_pos ha, hall, Bool.and_true, br_if, br_if]
    by_cases h1 : 1 ≤ z
    · rw [if_pos (by simpa using h1), decide_eq_true h1, Bool.true_and]
      by_cases h2 : z ≤ 64
      · rw [if_pos (by simpa using h2), decide_eq_true h2, Bool.true_and]
        have : decide (((r.length : Nat) : Int) ≤ 64) = decide (r.length ≤ 64) := by rw [decide_eq_decide]; omega
        rw [this]
      · rw [if_neg (by simpa using h2), decide_eq_false h2]; rfl
    · rw [if_neg (by simpa using h1), decide_eq_false h1]; rfl
  · have hall : (r.all fun e => decide (e.1.1 = z) && rtS e.1.1 e.1.2 && decide (e.2.size = (r.headD noE).2.size) && decide (e.2.size ≤ 64)) = false := by
      rw [Bool.eq_false_iff]
      intro h
      rw [List.all_eq_true] at h
      refine ha fun e he => ?_
      have := h e he
      simp only [Bool.and_eq_true, decide_eq_true_eq] at this
      exact ⟨this.1.1.1, this.1.1.2, this.1.2, this.2⟩
    rw [if_neg ha, hall, Bool.and_false]
noncomputable def refPRight_ent : List V → List Blk → Option (Bool × Out)
  | [.s (.int .i64 z), w0], [] => (asSl (.pair (.pair (.int .i64) (.sl (.int .u64))) .str) w0).bind fun r => some ((okE r && decide (List.length (α := Eqn) r ≤ 1000)), (.s (.bool (mayB z r)), []))
  | _, _ => none
theorem refPRight_ok : ∀ args bs out, refPRight_ent args bs = some (true, out) → Fact Tryd.prog gTab 49 args bs out := by
  intro args bs out h
  unfold refPRight_ent at h
  split at h
  · rename_i z w0
    obtain ⟨r, h_r, h⟩ := Option.bind_eq_some_iff.1 h
    simp only [Option.some.injEq, Prod.mk.injEq] at h
    obtain ⟨hg, rfl⟩ := h
    exact (refPRight_fact z r hg).args (fun _ _ _ => fun _ h => RVs_two (fun _ h => h) (fun _ h => RVs_two (fun _ h => RV_sl (s := (.pair (.pair (.int .i64) (.sl (.int .u64))) .str)) h_r h) (fun _ h => h) h) h)
  · cases h
noncomputable def T_refPRight : Tbl := Tbl.cons 49 refPRight_ent T_Peel
theorem T_refPRight_ok : CallOk Tryd.prog gTab T_refPRight := cons_ok T_Peel_ok refPRight_ok
/-! downpour/downpourref15.Step -/
noncomputable def refStepF_s2 {R : Type} (w3 : Int) (w4 : Int) (r : List ((Int × List Int) × ByteArray)) (c0 : Int → Option R) (c1 : Int → Int → Option R) (c2 : Option R) : Option R :=
  br (decide (w3 < w4))
    (bnd (ix r w3) fun e7 =>
    grd (okW e7.1.2 && decide (e7.1.1 ≤ 64 * (e7.1.2.length : Int)) && decide (e7.1.2.length ≤ 1000)) <|
    br (((((plcR e7.1.1 e7.1.2).length : Nat) : Int) : Int) == 1)
      (c0 w3)
      (c1 w4 (IntKind.i64.wrap (w3 + 1))))
    (c2)
theorem refStepF_s2_eq (fuel : Nat) (k : Nat) (K : Ex → St → Option Out) (w3 : Int) (w4 : Int) (r : List ((Int × List Int) × ByteArray)) : lpN (sub (bodyOf Tryd.prog 109) [1, 0, 1, 0, 0]) (fnX Tryd.prog mode10 T_refPRight fuel 19 0) 4 [2, 5, 6, 7] (k + 1) ⟨[(2, .s (.int .i64 0)), (5, .lt (.pair (.pair (.int .i64) (.sl (.int .u64))) .str) r), (6, .s (.int .i64 w4)), (7, .s (.int .i64 w3))], [], 0, none⟩ K = refStepF_s2 w3 w4 r (fun (a8 : Int) => K .ret ⟨[(2, .s (.int .i64 a8))], [], 0, none⟩) (fun (a9 : Int) (a10 : Int) => lpN (sub (bodyOf Tryd.prog 109) [1, 0, 1, 0, 0]) (fnX Tryd.prog mode10 T_refPRight fuel 19 0) 4 [2, 5, 6, 7] k ⟨[(2, .s (.int .i64 0)), (5, .lt (.pair (.pair (.int .i64) (.sl (.int .u64))) .str) r), (6, .s (.int .i64 a9)), (7, .s (.int .i64 a10))], [], 0, none⟩ K) (K (.exit 0) ⟨[(2, .s (.int .i64 0))], [], 0, none⟩) := by kernel_rfl
noncomputable def refStepF_l1 {R : Type} (fuel : Nat) (r : List ((Int × List Int) × ByteArray)) (k0 : Int → Option R) (k1 : Option R) : Nat → Int → Int → Option R
  | 0, _, _ => none
  | k + 1, w4, w3 =>
    (refStepF_s2 w3 w4 r (fun (a8 : Int) => k0 a8) (fun (a9 : Int) (a10 : Int) => ( refStepF_l1 fuel r k0 k1 k a9 a10 )) (k1))
theorem refStepF_l1_eq (fuel : Nat) (r : List ((Int × List Int) × ByteArray)) (K : Ex → St → Option Out) : ∀ (k : Nat) (w4 : Int) (w3 : Int), lpN (sub (bodyOf Tryd.prog 109) [1, 0, 1, 0, 0]) (fnX Tryd.prog mode10 T_refPRight fuel 19 0) 4 [2, 5, 6, 7] k ⟨[(2, .s (.int .i64 0)), (5, .lt (.pair (.pair (.int .i64) (.sl (.int .u64))) .str) r), (6, .s (.int .i64 w4)), (7, .s (.int .i64 w3))], [], 0, none⟩ K = refStepF_l1 fuel r (fun (y6 : Int) => K .ret ⟨[(2, .s (.int .i64 y6))], [], 0, none⟩) (K (.exit 0) ⟨[(2, .s (.int .i64 0))], [], 0, none⟩) k w4 w3
  | 0, _, _ => rfl
  | k + 1, w4, w3 => by
    unfold refStepF_l1
    exact (refStepF_s2_eq fuel k K w3 w4 r).trans (congr (congr (congr (Eq.refl (refStepF_s2 (R := Out) w3 w4 r)) (rfl)) (funext fun a9 => funext fun a10 => refStepF_l1_eq fuel r K k a9 a10)) (rfl))
noncomputable def refStepF_s3 {R : Type} (x13 : Int) (c0 : Int → Option R) : Option R :=
  c0 x13
theorem refStepF_s3_eq (fuel : Nat)  (x13 : Int) : (kont (fnX Tryd.prog mode10 T_refPRight fuel 19 0) (bodyOf Tryd.prog 109) [1, 0, 1, 0] 4 (endK Tryd.prog 0 0 109)) .ret ⟨[(2, .s (.int .i64 x13))], [], 0, none⟩ = refStepF_s3 x13 (fun (a14 : Int) => some (.s (.int .i64 a14), [])) := by kernel_rfl
noncomputable def refStepF_s4 {R : Type}  (c0 : Int → Option R) : Option R :=
  c0 (-1)
theorem refStepF_s4_eq (fuel : Nat)   : (kont (fnX Tryd.prog mode10 T_refPRight fuel 19 0) (bodyOf Tryd.prog 109) [1, 0, 1, 0] 4 (endK Tryd.prog 0 0 109)) (.exit 0) ⟨[(2, .s (.int .i64 0))], [], 0, none⟩ = refStepF_s4  (fun (a15 : Int) => some (.s (.int .i64 a15), [])) := by kernel_rfl
noncomputable def refStepF_s1 {R : Type} (r : List ((Int × List Int) × ByteArray)) (c0 : Int → Int → Option R) : Option R :=
  c0 ((r.length : Nat) : Int) 0
theorem refStepF_s1_eq (fuel : Nat)  (r : List ((Int × List Int) × ByteArray)) : callN Tryd.prog mode10 T_refPRight fuel 109 [.lt (.pair (.pair (.int .i64) (.sl (.int .u64))) .str) r] [] = refStepF_s1 r (fun (a11 : Int) (a12 : Int) => lpN (sub (bodyOf Tryd.prog 109) [1, 0, 1, 0, 0]) (fnX Tryd.prog mode10 T_refPRight fuel 19 0) 4 [2, 5, 6, 7] fuel ⟨[(2, .s (.int .i64 0)), (5, .lt (.pair (.pair (.int .i64) (.sl (.int .u64))) .str) r), (6, .s (.int .i64 a11)), (7, .s (.int .i64 a12))], [], 0, none⟩ (kont (fnX Tryd.prog mode10 T_refPRight fuel 19 0) (bodyOf Tryd.prog 109) [1, 0, 1, 0] 4 (endK Tryd.prog 0 0 109))) := by kernel_rfl
noncomputable def refStepF {R : Type} (fuel : Nat) (r : List ((Int × List Int) × ByteArray)) (r0 : Int → Option R) : Option R :=
  (refStepF_s1 r (fun (a11 : Int) (a12 : Int) => (refStepF_l1 fuel r (fun (x13 : Int) => (refStepF_s3 x13 (fun (a14 : Int) => r0 a14))) ((refStepF_s4 (fun (a15 : Int) => r0 a15))) fuel a11 a12)))
theorem refStepF_eq (fuel : Nat) (r : List ((Int × List Int) × ByteArray)) : callN Tryd.prog mode10 T_refPRight fuel 109 [.lt (.pair (.pair (.int .i64) (.sl (.int .u64))) .str) r] [] = refStepF fuel r (fun (z0 : Int) => some (.s (.int .i64 z0), [])) := by
  unfold refStepF
  exact (refStepF_s1_eq fuel  r).trans (congr (Eq.refl (refStepF_s1 (R := Out) r)) (funext fun a11 => funext fun a12 => (refStepF_l1_eq fuel r (kont (fnX Tryd.prog mode10 T_refPRight fuel 19 0) (bodyOf Tryd.prog 109) [1, 0, 1, 0] 4 (endK Tryd.prog 0 0 109)) fuel a11 a12).trans (congrFun (congrFun (congrFun (congr (congr (Eq.refl (refStepF_l1 (R := Out) fuel r)) (funext fun x13 => (refStepF_s3_eq fuel  x13))) ((refStepF_s4_eq fuel  ))) fuel) a11) a12)))
theorem refStep_loop {R : Type} (fuel : Nat) (r : List Eqn) (hok : ∀ e, e ∈ r → okW e.1.2 = true ∧ rtS e.1.1 e.1.2 = true) (hx : r.length ≤ 1000) (k0 : Int → Option R) (k1 : Option R) : ∀ (k j : Nat), j ≤ r.length → r.length < j + k → refStepF_l1 fuel r k0 k1 k (r.length : Int) (j : Int) = if stepFrom (r.drop j) (j : Int) = -1 then k1 else k0 (stepFrom (r.drop j) (j : Int))
  | 0, j, h1, h2 => by omega
  | k + 1, j, h1, h2 => by
    unfold refStepF_l1 refStepF_s2
    rw [br_if]
    by_cases hc : j < r.length
    · obtain ⟨hw, hr⟩ := hok _ (List.getElem_mem hc)
      rw [if_pos (by simpa using hc), bnd_of ((ix_nat r j).trans (List.getElem?_eq_getElem hc)), grd_of (rt_guard hw hr), br_if, List.drop_eq_getElem_cons hc, stepFrom, wrap_i64 (by omega) (by omega), show (j : Int) + 1 = ((j + 1 : Nat) : Int) by omega]
      dsimp only
      rw [refStep_loop fuel r hok hx k0 k1 k (j + 1) (by omega) (by omega)]
      have hi := one_iff hw hr
      by_cases h : 0 ≤ oneS (r[j]).1.1 (r[j]).1.2
      · rw [if_pos (by simp [hi.1 h]), if_pos h, if_neg (by omega)]
      · rw [if_neg (by simp; intro g; exact h (hi.2 (by omega))), if_neg h]
    · rw [if_neg (by simpa using hc), List.drop_eq_nil_of_le (by omega)]
      rfl
theorem refStep_fact (r : List ((Int × List Int) × ByteArray)) (hg : (rtE r && decide (r.length ≤ 1000)) = true) : Fact Tryd.prog gTab 109 [.lt (.pair (.pair (.int .i64) (.sl (.int .u64))) .str) r] [] (.s (.int .i64 (stepS r)), []) := by
  rw [Bool.and_eq_true] at hg
  obtain ⟨hok, hx⟩ := hg
  have hx := of_decide_eq_true hx
  refine callN_fact hN hM T_refPRight_ok (n := 1001) (mode := mode10) ?_
  rw [refStepF_eq]
  unfold refStepF refStepF_s1
  dsimp only
  have := refStep_loop (R := Out) 1001 r (rtE_iff.1 hok) hx
  refine (this _ _ 1001 0 (by omega) (by omega)).trans ?_
  rw [List.drop_zero, stepS_eq]
  unfold stepI refStepF_s3 refStepF_s4
  rw [show ((0 : Nat) : Int) = 0 from rfl]
  by_cases h : stepFrom r 0 = -1
  · rw [if_pos h, h]
  · rw [if_neg h]
noncomputable def refStep_ent : List V → List Blk → Option (Bool × Out)
  | [w0], [] => (asSl (.pair (.pair (.int .i64) (.sl (.int .u64))) .str) w0).bind fun r => some ((rtE r && decide (r.length ≤ 1000)), (.s (.int .i64 (stepS r)), []))
  | _, _ => none
theorem refStep_ok : ∀ args bs out, refStep_ent args bs = some (true, out) → Fact Tryd.prog gTab 109 args bs out := by
  intro args bs out h
  unfold refStep_ent at h
  split at h
  · rename_i w0
    obtain ⟨r, h_r, h⟩ := Option.bind_eq_some_iff.1 h
    simp only [Option.some.injEq, Prod.mk.injEq] at h
    obtain ⟨hg, rfl⟩ := h
    exact (refStep_fact r hg).args (fun _ _ _ => fun _ h => RVs_two (fun _ h => RV_sl (s := (.pair (.pair (.int .i64) (.sl (.int .u64))) .str)) h_r h) (fun _ h => h) h)
  · cases h
noncomputable def T_refStep : Tbl := Tbl.cons 109 refStep_ent T_refPRight
theorem T_refStep_ok : CallOk Tryd.prog gTab T_refStep := cons_ok T_refPRight_ok refStep_ok
/-! downpour/downpourref15.xor -/
noncomputable def refXorTF_s1 {R : Type} (a : ByteArray) (b : ByteArray) (c0 : ByteArray → Option R) : Option R :=
  grd (decide ((0 : Int) ≤ 2) && decide ((2 : Int) ≤ 1000000)) <|
  grd (bok ((a.size : Nat) : Int) ([a, b]) && decide ((ones (Int.toNat 2)).length = ([a, b]).length)) <|
  c0 (txt (sumBS ((a.size : Nat) : Int) ([a, b]) (ones (Int.toNat 2))))
theorem refXorTF_s1_eq (fuel : Nat)  (a : ByteArray) (b : ByteArray) : callN Tryd.prog mode10 T_refStep fuel 185 [.s (.string a), .s (.string b)] [] = refXorTF_s1 a b (fun (a1 : ByteArray) => some (.s (.string a1), [])) := by kernel_rfl
noncomputable def refXorTF {R : Type} (fuel : Nat) (a : ByteArray) (b : ByteArray) (r0 : ByteArray → Option R) : Option R :=
  (refXorTF_s1 a b (fun (a1 : ByteArray) => r0 a1))
theorem refXorTF_eq (fuel : Nat) (a : ByteArray) (b : ByteArray) : callN Tryd.prog mode10 T_refStep fuel 185 [.s (.string a), .s (.string b)] [] = refXorTF fuel a b (fun (z0 : ByteArray) => some (.s (.string z0), [])) := by
  unfold refXorTF
  exact (refXorTF_s1_eq fuel  a b)
theorem xor_sum2 {a b : ByteArray} (h : a.size = b.size) (h2 : a.size ≤ 64) : bok ((a.size : Nat) : Int) [a, b] = true ∧ txt (sumBS ((a.size : Nat) : Int) [a, b] (ones (Int.toNat 2))) = xorT a b := by
  have hb : bok ((a.size : Nat) : Int) [a, b] = true := bok_iff.2 ⟨⟨by omega, by omega⟩, by simp, fun s hs => by
    simp only [List.mem_cons, List.not_mem_nil, or_false] at hs
    rcases hs with rfl | rfl <;> omega⟩
  refine ⟨hb, ?_⟩
  have e : xb (zb ((a.size : Nat) : Int).toNat) (bytesL a) = bytesL a := by
    rw [Int.toNat_natCast, ← bytes_len]; exact zero_xb (bytes_ok a)
  rw [xorT_eq, sumBS_eq]
  unfold xorTI sumBI
  rw [if_pos hb]
  show txt (xb (xb _ (bytesL a)) (bytesL b)) = _
  rw [e]
theorem refXorT_fact (a : ByteArray) (b : ByteArray) (hg : (decide (a.size = b.size) && decide (a.size ≤ 64)) = true) : Fact Tryd.prog gTab 185 [.s (.string a), .s (.string b)] [] (.s (.string (xorT a b)), []) := by
  simp only [Bool.and_eq_true, decide_eq_true_eq] at hg
  obtain ⟨h1, h2⟩ := hg
  obtain ⟨g1, g2⟩ := xor_sum2 h1 h2
  refine callN_fact hN hM T_refStep_ok (n := 0) (mode := mode10) ?_
  rw [refXorTF_eq]
  unfold refXorTF refXorTF_s1
  rw [grd_of (by decide), grd_of (by rw [g1]; rfl), g2]
noncomputable def refXorT_ent : List V → List Blk → Option (Bool × Out)
  | [.s (.string a), .s (.string b)], [] => some ((decide (a.size = b.size) && decide (a.size ≤ 64)), (.s (.string (xorT a b)), []))
  | _, _ => none
theorem refXorT_ok : ∀ args bs out, refXorT_ent args bs = some (true, out) → Fact Tryd.prog gTab 185 args bs out := by
  intro args bs out h
  unfold refXorT_ent at h
  split at h
  · rename_i a b
    simp only [Option.some.injEq, Prod.mk.injEq] at h
    obtain ⟨hg, rfl⟩ := h
    exact refXorT_fact a b hg
  · cases h
noncomputable def T_refXorT : Tbl := Tbl.cons 185 refXorT_ent T_refStep
theorem T_refXorT_ok : CallOk Tryd.prog gTab T_refXorT := cons_ok T_refStep_ok refXorT_ok
/-! downpour/downpourref15.without -/
noncomputable def withoutF_s1 {R : Type} (ws : List Int) (i : Int) (n : Int) (t : ByteArray) (s : ByteArray) (c0 : Int → List Int → ByteArray → Option R) : Option R :=
  grd (okW ws && decide (0 ≤ i) && decide (i < 64 * (ws.length : Int)) && decide (ws.length ≤ 1000000)) <|
  br (((bitS ws i) : Int) == 0)
    (c0 n ws t)
    (grd (decide (0 ≤ n) && decide (n ≤ 512) && decide (([i]).length ≤ 1000000)) <|
    grd (rtS n ws && rtS n (ofS n ([i])) && decide (n = n) && okW ws && okW (ofS n ([i]))) <|
    grd (decide (t.size = s.size) && decide (t.size ≤ 64)) <|
    c0 n (xorW n ws n (ofS n ([i]))) (xorT t s))
theorem withoutF_s1_eq (fuel : Nat)  (ws : List Int) (i : Int) (n : Int) (t : ByteArray) (s : ByteArray) : callN Tryd.prog mode10 T_refXorT fuel 157 [.agg [.s (.int .i64 n), .li .u64 ws, .s (.string t)], .s (.int .i64 i), .s (.string s)] [] = withoutF_s1 ws i n t s (fun (a1 : Int) (a2 : List Int) (a3 : ByteArray) => some (.agg [.s (.int .i64 a1), .li .u64 a2, .s (.string a3)], [])) := by kernel_rfl
noncomputable def withoutF {R : Type} (fuel : Nat) (n : Int) (ws : List Int) (t : ByteArray) (i : Int) (s : ByteArray) (r0 : Int → List Int → ByteArray → Option R) : Option R :=
  (withoutF_s1 ws i n t s (fun (a1 : Int) (a2 : List Int) (a3 : ByteArray) => r0 a1 a2 a3))
theorem withoutF_eq (fuel : Nat) (n : Int) (ws : List Int) (t : ByteArray) (i : Int) (s : ByteArray) : callN Tryd.prog mode10 T_refXorT fuel 157 [.agg [.s (.int .i64 n), .li .u64 ws, .s (.string t)], .s (.int .i64 i), .s (.string s)] [] = withoutF fuel n ws t i s (fun (z0 : Int) (z1 : List Int) (z2 : ByteArray) => some (.agg [.s (.int .i64 z0), .li .u64 z1, .s (.string z2)], [])) := by
  unfold withoutF
  exact (withoutF_s1_eq fuel  ws i n t s)
theorem without_fact (n : Int) (ws : List Int) (t : ByteArray) (i : Int) (s : ByteArray) (hg : (okW ws && rtS n ws && decide (0 ≤ i) && decide (i < n) && decide (t.size = s.size) && decide (s.size ≤ 64)) = true) : Fact Tryd.prog gTab 157 [.agg [.s (.int .i64 n), .li .u64 ws, .s (.string t)], .s (.int .i64 i), .s (.string s)] [] (.agg [.s (.int .i64 ((outE ((n, ws), t) i s).1.1)), .li .u64 ((outE ((n, ws), t) i s).1.2), .s (.string ((outE ((n, ws), t) i s).2))], []) := by
  simp only [Bool.and_eq_true, decide_eq_true_eq] at hg
  obtain ⟨⟨⟨⟨⟨hok, hr⟩, h0⟩, h1⟩, h2⟩, h3⟩ := hg
  obtain ⟨g1, g2, g3, g4⟩ := out_row hok hr h0 h1
  have hle := rt_le hr
  have hln := rt_lens hr
  have hnw := nw_cast (rtS_iff.1 hr).1.1
  have hsz := (rtS_iff.1 hr).1
  refine callN_fact hN hM T_refXorT_ok (n := 0) (mode := mode10) ?_
  rw [withoutF_eq]
  unfold withoutF withoutF_s1
  rw [grd_of (by rw [hok]; simp; omega), br_if, outE_eq]
  unfold outI
  rw [get_bit hr h0 h1, bitS_eq]
  unfold bitI
  by_cases hb : (val ws).testBit i.toNat = true
  · have hx := (xor_rt hok g3 hr g2 rfl).2.2
    rw [if_pos hb, if_neg (by decide), if_neg (by decide), if_pos g1, if_pos g1, grd_of (by simp; omega), grd_of (by rw [hr, g2, hok, g3]; simp), grd_of (by simp; omega), hx]
  · rw [if_neg hb, if_pos (by decide), if_pos rfl]
noncomputable def without_ent : List V → List Blk → Option (Bool × Out)
  | [.agg [.s (.int .i64 n), w0, .s (.string t)], .s (.int .i64 i), .s (.string s)], [] => (asSl (.int .u64) w0).bind fun ws => some ((okW ws && rtS n ws && decide (0 ≤ i) && decide (i < n) && decide (t.size = s.size) && decide (s.size ≤ 64)), (.agg [.s (.int .i64 ((outE ((n, ws), t) i s).1.1)), .li .u64 ((outE ((n, ws), t) i s).1.2), .s (.string ((outE ((n, ws), t) i s).2))], []))
  | _, _ => none
theorem without_ok : ∀ args bs out, without_ent args bs = some (true, out) → Fact Tryd.prog gTab 157 args bs out := by
  intro args bs out h
  unfold without_ent at h
  split at h
  · rename_i n w0 t i s
    obtain ⟨ws, h_ws, h⟩ := Option.bind_eq_some_iff.1 h
    simp only [Option.some.injEq, Prod.mk.injEq] at h
    obtain ⟨hg, rfl⟩ := h
    exact (without_fact n ws t i s hg).args (fun _ _ _ => fun _ h => RVs_two (fun _ h => RV_agg_two (fun _ h => RVs_two (fun _ h => h) (fun _ h => RVs_two (fun _ h => RV_li h_ws h) (fun _ h => h) h) h) h) (fun _ h => h) h)
  · cases h
noncomputable def T_without : Tbl := Tbl.cons 157 without_ent T_refXorT
theorem T_without_ok : CallOk Tryd.prog gTab T_without := cons_ok T_refXorT_ok without_ok
/-! downpour/downpourref15.all -/
noncomputable def refAllF_s2 {R : Type} (w5 : Int) (w4 : Int) (r : List ((Int × List Int) × ByteArray)) (i : Int) (s : ByteArray) (w6 : List ((Int × List Int) × ByteArray)) (w3 : Nat) (c0 : Nat → Int → Int → (List ((Int × List Int) × ByteArray)) → Option R) (c1 : Nat → (List ((Int × List Int) × ByteArray)) → Option R) : Option R :=
  br (decide (w5 < w4))
    (bnd (ix r w5) fun e10 =>
    grd (okW e10.1.2 && rtS e10.1.1 e10.1.2 && decide (0 ≤ i) && decide (i < e10.1.1) && decide (e10.2.size = s.size) && decide (s.size ≤ 64)) <|
    grd (Nat.beq w6.length w3) <|
    grd (okN (w3 + 1) 48) <|
    c0 ((w6 ++ [(outE ((e10.1.1, e10.1.2), e10.2) i s)]).length) w4 (IntKind.i64.wrap (w5 + 1)) (w6 ++ [(outE ((e10.1.1, e10.1.2), e10.2) i s)]))
    (c1 w3 w6)
theorem refAllF_s2_eq (fuel : Nat) (k : Nat) (K : Ex → St → Option Out) (w5 : Int) (w4 : Int) (r : List ((Int × List Int) × ByteArray)) (i : Int) (s : ByteArray) (w6 : List ((Int × List Int) × ByteArray)) (w3 : Nat) : lpN (sub (bodyOf Tryd.prog 112) [1, 1, 0, 1, 0, 0]) (fnX Tryd.prog mode10 T_without fuel 26 0) 33554624 [1, 2, 6, 7, 11, 12, 13] (k + 1) ⟨[(1, .s (.int .i64 i)), (2, .s (.string s)), (6, .s (.slice none 0 0)), (7, .sl 0 3 0 w3), (11, .lt (.pair (.pair (.int .i64) (.sl (.int .u64))) .str) r), (12, .s (.int .i64 w4)), (13, .s (.int .i64 w5))], [(0, some ⟨88, .lt (.pair (.pair (.int .i64) (.sl (.int .u64))) .str) w6, true⟩)], 1, none⟩ K = refAllF_s2 w5 w4 r i s w6 w3 (fun (a11 : Nat) (a12 : Int) (a13 : Int) (a14 : List ((Int × List Int) × ByteArray)) => lpN (sub (bodyOf Tryd.prog 112) [1, 1, 0, 1, 0, 0]) (fnX Tryd.prog mode10 T_without fuel 26 0) 33554624 [1, 2, 6, 7, 11, 12, 13] k ⟨[(1, .s (.int .i64 i)), (2, .s (.string s)), (6, .s (.slice none 0 0)), (7, .sl 0 3 0 a11), (11, .lt (.pair (.pair (.int .i64) (.sl (.int .u64))) .str) r), (12, .s (.int .i64 a12)), (13, .s (.int .i64 a13))], [(0, some ⟨88, .lt (.pair (.pair (.int .i64) (.sl (.int .u64))) .str) a14, true⟩)], 1, none⟩ K) (fun (a15 : Nat) (a16 : List ((Int × List Int) × ByteArray)) => K (.exit 0) ⟨[(6, .s (.slice none 0 0)), (7, .sl 0 3 0 a15)], [(0, some ⟨88, .lt (.pair (.pair (.int .i64) (.sl (.int .u64))) .str) a16, true⟩)], 1, none⟩) := by kernel_rfl
noncomputable def refAllF_l1 {R : Type} (fuel : Nat) (i : Int) (s : ByteArray) (r : List ((Int × List Int) × ByteArray)) (k0 : Nat → (List ((Int × List Int) × ByteArray)) → Option R) : Nat → Nat → Int → Int → (List ((Int × List Int) × ByteArray)) → Option R
  | 0, _, _, _, _ => none
  | k + 1, w3, w4, w5, w6 =>
    (refAllF_s2 w5 w4 r i s w6 w3 (fun (a11 : Nat) (a12 : Int) (a13 : Int) (a14 : List ((Int × List Int) × ByteArray)) => ( refAllF_l1 fuel i s r k0 k a11 a12 a13 a14 )) (fun (a15 : Nat) (a16 : List ((Int × List Int) × ByteArray)) => k0 a15 a16))
theorem refAllF_l1_eq (fuel : Nat) (i : Int) (s : ByteArray) (r : List ((Int × List Int) × ByteArray)) (K : Ex → St → Option Out) : ∀ (k : Nat) (w3 : Nat) (w4 : Int) (w5 : Int) (w6 : List ((Int × List Int) × ByteArray)), lpN (sub (bodyOf Tryd.prog 112) [1, 1, 0, 1, 0, 0]) (fnX Tryd.prog mode10 T_without fuel 26 0) 33554624 [1, 2, 6, 7, 11, 12, 13] k ⟨[(1, .s (.int .i64 i)), (2, .s (.string s)), (6, .s (.slice none 0 0)), (7, .sl 0 3 0 w3), (11, .lt (.pair (.pair (.int .i64) (.sl (.int .u64))) .str) r), (12, .s (.int .i64 w4)), (13, .s (.int .i64 w5))], [(0, some ⟨88, .lt (.pair (.pair (.int .i64) (.sl (.int .u64))) .str) w6, true⟩)], 1, none⟩ K = refAllF_l1 fuel i s r (fun (y8 : Nat) (y9 : List ((Int × List Int) × ByteArray)) => K (.exit 0) ⟨[(6, .s (.slice none 0 0)), (7, .sl 0 3 0 y8)], [(0, some ⟨88, .lt (.pair (.pair (.int .i64) (.sl (.int .u64))) .str) y9, true⟩)], 1, none⟩) k w3 w4 w5 w6
  | 0, _, _, _, _ => rfl
  | k + 1, w3, w4, w5, w6 => by
    unfold refAllF_l1
    exact (refAllF_s2_eq fuel k K w5 w4 r i s w6 w3).trans (congr (congr (Eq.refl (refAllF_s2 (R := Out) w5 w4 r i s w6 w3)) (funext fun a11 => funext fun a12 => funext fun a13 => funext fun a14 => refAllF_l1_eq fuel i s r K k a11 a12 a13 a14)) (rfl))
noncomputable def refAllF_s3 {R : Type} (x22 : List ((Int × List Int) × ByteArray)) (x21 : Nat) (c0 : (List ((Int × List Int) × ByteArray)) → Option R) : Option R :=
  c0 ((x22.drop 0).take x21)
theorem refAllF_s3_eq (fuel : Nat)  (x22 : List ((Int × List Int) × ByteArray)) (x21 : Nat) : (kont (fnX Tryd.prog mode10 T_without fuel 26 0) (bodyOf Tryd.prog 112) [1, 1, 0, 1, 0] 64 (endK Tryd.prog 0 0 112)) (.exit 0) ⟨[(6, .s (.slice none 0 0)), (7, .sl 0 3 0 x21)], [(0, some ⟨88, .lt (.pair (.pair (.int .i64) (.sl (.int .u64))) .str) x22, true⟩)], 1, none⟩ = refAllF_s3 x22 x21 (fun (a23 : List ((Int × List Int) × ByteArray)) => some (.lt (.pair (.pair (.int .i64) (.sl (.int .u64))) .str) a23, [])) := by kernel_rfl
noncomputable def refAllF_s1 {R : Type} (r : List ((Int × List Int) × ByteArray)) (i : Int) (s : ByteArray) (c0 : Nat → Int → Int → (List ((Int × List Int) × ByteArray)) → Option R) : Option R :=
  c0 0 ((r.length : Nat) : Int) 0 ([])
theorem refAllF_s1_eq (fuel : Nat)  (r : List ((Int × List Int) × ByteArray)) (i : Int) (s : ByteArray) : callN Tryd.prog mode10 T_without fuel 112 [.lt (.pair (.pair (.int .i64) (.sl (.int .u64))) .str) r, .s (.int .i64 i), .s (.string s)] [] = refAllF_s1 r i s (fun (a17 : Nat) (a18 : Int) (a19 : Int) (a20 : List ((Int × List Int) × ByteArray)) => lpN (sub (bodyOf Tryd.prog 112) [1, 1, 0, 1, 0, 0]) (fnX Tryd.prog mode10 T_without fuel 26 0) 33554624 [1, 2, 6, 7, 11, 12, 13] fuel ⟨[(1, .s (.int .i64 i)), (2, .s (.string s)), (6, .s (.slice none 0 0)), (7, .sl 0 3 0 a17), (11, .lt (.pair (.pair (.int .i64) (.sl (.int .u64))) .str) r), (12, .s (.int .i64 a18)), (13, .s (.int .i64 a19))], [(0, some ⟨88, .lt (.pair (.pair (.int .i64) (.sl (.int .u64))) .str) a20, true⟩)], 1, none⟩ (kont (fnX Tryd.prog mode10 T_without fuel 26 0) (bodyOf Tryd.prog 112) [1, 1, 0, 1, 0] 64 (endK Tryd.prog 0 0 112))) := by kernel_rfl
noncomputable def refAllF {R : Type} (fuel : Nat) (r : List ((Int × List Int) × ByteArray)) (i : Int) (s : ByteArray) (r0 : (List ((Int × List Int) × ByteArray)) → Option R) : Option R :=
  (refAllF_s1 r i s (fun (a17 : Nat) (a18 : Int) (a19 : Int) (a20 : List ((Int × List Int) × ByteArray)) => (refAllF_l1 fuel i s r (fun (x21 : Nat) (x22 : List ((Int × List Int) × ByteArray)) => (refAllF_s3 x22 x21 (fun (a23 : List ((Int × List Int) × ByteArray)) => r0 a23))) fuel a17 a18 a19 a20)))
theorem refAllF_eq (fuel : Nat) (r : List ((Int × List Int) × ByteArray)) (i : Int) (s : ByteArray) : callN Tryd.prog mode10 T_without fuel 112 [.lt (.pair (.pair (.int .i64) (.sl (.int .u64))) .str) r, .s (.int .i64 i), .s (.string s)] [] = refAllF fuel r i s (fun (z0 : List ((Int × List Int) × ByteArray)) => some (.lt (.pair (.pair (.int .i64) (.sl (.int .u64))) .str) z0, [])) := by
  unfold refAllF
  exact (refAllF_s1_eq fuel  r i s).trans (congr (Eq.refl (refAllF_s1 (R := Out) r i s)) (funext fun a17 => funext fun a18 => funext fun a19 => funext fun a20 => (refAllF_l1_eq fuel i s r (kont (fnX Tryd.prog mode10 T_without fuel 26 0) (bodyOf Tryd.prog 112) [1, 1, 0, 1, 0] 64 (endK Tryd.prog 0 0 112)) fuel a17 a18 a19 a20).trans (congrFun (congrFun (congrFun (congrFun (congrFun (congr (Eq.refl (refAllF_l1 (R := Out) fuel i s r)) (funext fun x21 => funext fun x22 => (refAllF_s3_eq fuel  x22 x21))) fuel) a17) a18) a19) a20)))
theorem refAll_loop {R : Type} (fuel : Nat) (i : Int) (s : ByteArray) (r : List Eqn) (hA : allOk r i s = true) (k0 : Nat → List Eqn → Option R) : ∀ (k j : Nat), j ≤ r.length → r.length < j + k → refAllF_l1 fuel i s r k0 k j (r.length : Int) (j : Int) ((r.take j).map fun e => outE e i s) = k0 r.length (r.map fun e => outE e i s)
  | 0, j, h1, h2 => by omega
  | k + 1, j, h1, h2 => by
    obtain ⟨hx, h0, hs, hr⟩ := allOk_iff.1 hA
    have hl : ((r.take j).map fun e => outE e i s).length = j := by rw [List.length_map, List.length_take]; omega
    unfold refAllF_l1 refAllF_s2
    rw [br_if]
    by_cases hc : j < r.length
    · obtain ⟨a1, a2, a3, a4⟩ := hr _ (List.getElem_mem hc)
      have e : ((r.take j).map fun e => outE e i s) ++ [outE (((r[j]).1.1, (r[j]).1.2), (r[j]).2) i s] = (r.take (j + 1)).map fun e => outE e i s := by rw [List.take_succ_eq_append_getElem hc, List.map_append]; rfl
      have hl1 : ((r.take (j + 1)).map fun e => outE e i s).length = j + 1 := by rw [List.length_map, List.length_take]; omega
      rw [if_pos (by simpa using hc), bnd_of ((ix_nat r j).trans (List.getElem?_eq_getElem hc)), grd_of (by rw [a1, a2]; simp; omega), grd_of (by rw [hl]; exact beq_self j), grd_of (okN_of (by omega) (by omega)), e, hl1, wrap_i64 (by omega) (by omega), show (j : Int) + 1 = ((j + 1 : Nat) : Int) by omega]
      exact refAll_loop fuel i s r hA k0 k (j + 1) (by omega) (by omega)
    · have e : j = r.length := by omega
      subst e
      rw [if_neg (by simp), List.take_length]
theorem refAll_fact (r : List ((Int × List Int) × ByteArray)) (i : Int) (s : ByteArray) (hg : (allOk r i s) = true) : Fact Tryd.prog gTab 112 [.lt (.pair (.pair (.int .i64) (.sl (.int .u64))) .str) r, .s (.int .i64 i), .s (.string s)] [] (.lt (.pair (.pair (.int .i64) (.sl (.int .u64))) .str) ((r.map fun e => outE e i s) : List ((Int × List Int) × ByteArray)), []) := by
  have hx := (allOk_iff.1 hg).1
  refine callN_fact hN hM T_without_ok (n := 1001) (mode := mode10) ?_
  rw [refAllF_eq]
  unfold refAllF refAllF_s1
  dsimp only
  have := refAll_loop (R := Out) 1001 i s r hg
  refine (this _ 1001 0 (by omega) (by omega)).trans ?_
  unfold refAllF_s3
  rw [List.drop_zero, List.take_of_length_le (by rw [List.length_map]; exact Nat.le_refl _)]
noncomputable def refAll_ent : List V → List Blk → Option (Bool × Out)
  | [w0, .s (.int .i64 i), .s (.string s)], [] => (asSl (.pair (.pair (.int .i64) (.sl (.int .u64))) .str) w0).bind fun r => some ((allOk r i s), (.lt (.pair (.pair (.int .i64) (.sl (.int .u64))) .str) ((r.map fun e => outE e i s) : List ((Int × List Int) × ByteArray)), []))
  | _, _ => none
theorem refAll_ok : ∀ args bs out, refAll_ent args bs = some (true, out) → Fact Tryd.prog gTab 112 args bs out := by
  intro args bs out h
  unfold refAll_ent at h
  split at h
  · rename_i w0 i s
    obtain ⟨r, h_r, h⟩ := Option.bind_eq_some_iff.1 h
    simp only [Option.some.injEq, Prod.mk.injEq] at h
    obtain ⟨hg, rfl⟩ := h
    exact (refAll_fact r i s hg).args (fun _ _ _ => fun _ h => RVs_two (fun _ h => RV_sl (s := (.pair (.pair (.int .i64) (.sl (.int .u64))) .str)) h_r h) (fun _ h => h) h)
  · cases h
noncomputable def T_refAll : Tbl := Tbl.cons 112 refAll_ent T_without
theorem T_refAll_ok : CallOk Tryd.prog gTab T_refAll := cons_ok T_without_ok refAll_ok
/-! downpour/downpourref15.put -/
noncomputable def putF_s3 {R : Type} (w54 : Int) (w1 : Int) (a : List Int) (i : Int) (w57 : List Int) (w55 : Nat) (t : List ByteArray) (w58 : List ByteArray) (w56 : Nat) (s : ByteArray) (l : List ((Int × List Int) × ByteArray)) (c0 : Int → Nat → Nat → List Int → List ByteArray → Option R) (c1 : Int → Nat → Nat → List Int → List ByteArray → Option R) (c2 : Nat → Nat → List Int → List ByteArray → Option R) : Option R :=
  br (decide (w54 < w1))
    (bnd (ix a w54) fun e66 =>
    br (decide (e66 > i))
      (grd (Nat.beq w57.length w55) <|
      grd (okN (w55 + 1) 8) <|
      bnd (ix t w54) fun e67 =>
      grd (Nat.beq w58.length w56) <|
      grd (okN (w56 + 1) 16) <|
      c0 (IntKind.i64.wrap (w54 + 1)) ((w57 ++ [e66]).length) ((w58 ++ [e67]).length) (w57 ++ [e66]) (w58 ++ [e67]))
      (grd (Nat.beq w57.length w55) <|
      grd (okN (w55 + 1) 8) <|
      bnd (ix t w54) fun e73 =>
      grd (Nat.beq w58.length w56) <|
      grd (okN (w56 + 1) 16) <|
      c1 (IntKind.i64.wrap (w54 + 1)) ((w57 ++ [e66]).length) ((w58 ++ [e73]).length) (w57 ++ [e66]) (w58 ++ [e73])))
    (c2 w55 w56 w57 w58)
theorem putF_s3_eq (fuel : Nat) (k : Nat) (K : Ex → St → Option Out) (w54 : Int) (w1 : Int) (a : List Int) (i : Int) (w57 : List Int) (w55 : Nat) (t : List ByteArray) (w58 : List ByteArray) (w56 : Nat) (s : ByteArray) (l : List ((Int × List Int) × ByteArray)) : lpN (sub (bodyOf Tryd.prog 111) [1, 1, 1, 0, 1, 0, 0]) (fnX Tryd.prog mode10 T_refAll fuel 71 0) 2361111183840784679366 [1, 2, 3, 6, 7, 8, 13, 14, 15] (k + 1) ⟨[(1, .s (.int .i64 i)), (2, .s (.string s)), (3, .ptr 0 3 0 0), (6, .ptr 1 3 0 0), (7, .ptr 2 3 0 0), (8, .s (.bool true)), (13, .li .i64 a), (14, .s (.int .i64 w1)), (15, .s (.int .i64 w54))], [(0, some ⟨79, .agg [.li .i64 a, .ls t, .lt (.pair (.pair (.int .i64) (.sl (.int .u64))) .str) l], true⟩), (1, some ⟨79, .agg [.s (.slice none 0 0), .s (.slice none 0 0), .s (.slice none 0 0)], true⟩), (2, some ⟨79, .agg [.sl 3 1 0 w55, .sl 4 1 0 w56, .s (.slice none 0 0)], true⟩), (3, some ⟨3, .li .i64 w57, true⟩), (4, some ⟨9, .ls w58, true⟩)], 5, none⟩ K = putF_s3 w54 w1 a i w57 w55 t w58 w56 s l (fun (a68 : Int) (a69 : Nat) (a70 : Nat) (a71 : List Int) (a72 : List ByteArray) => lpN (sub (bodyOf Tryd.prog 111) [1, 1, 1, 0, 1, 0, 0]) (fnX Tryd.prog mode10 T_refAll fuel 71 0) 2361111183840784679366 [1, 2, 3, 6, 7, 8, 13, 14, 15] k ⟨[(1, .s (.int .i64 i)), (2, .s (.string s)), (3, .ptr 0 3 0 0), (6, .ptr 1 3 0 0), (7, .ptr 2 3 0 0), (8, .s (.bool true)), (13, .li .i64 a), (14, .s (.int .i64 w1)), (15, .s (.int .i64 a68))], [(0, some ⟨79, .agg [.li .i64 a, .ls t, .lt (.pair (.pair (.int .i64) (.sl (.int .u64))) .str) l], true⟩), (1, some ⟨79, .agg [.s (.slice none 0 0), .s (.slice none 0 0), .s (.slice none 0 0)], true⟩), (2, some ⟨79, .agg [.sl 3 1 0 a69, .sl 4 1 0 a70, .s (.slice none 0 0)], true⟩), (3, some ⟨3, .li .i64 a71, true⟩), (4, some ⟨9, .ls a72, true⟩)], 5, none⟩ K) (fun (a74 : Int) (a75 : Nat) (a76 : Nat) (a77 : List Int) (a78 : List ByteArray) => lpN (sub (bodyOf Tryd.prog 111) [1, 1, 1, 0, 1, 0, 0]) (fnX Tryd.prog mode10 T_refAll fuel 71 0) 2361111183840784679366 [1, 2, 3, 6, 7, 8, 13, 14, 15] k ⟨[(1, .s (.int .i64 i)), (2, .s (.string s)), (3, .ptr 0 3 0 0), (6, .ptr 1 3 0 0), (7, .ptr 2 3 0 0), (8, .s (.bool true)), (13, .li .i64 a), (14, .s (.int .i64 w1)), (15, .s (.int .i64 a74))], [(0, some ⟨79, .agg [.li .i64 a, .ls t, .lt (.pair (.pair (.int .i64) (.sl (.int .u64))) .str) l], true⟩), (1, some ⟨79, .agg [.s (.slice none 0 0), .s (.slice none 0 0), .s (.slice none 0 0)], true⟩), (2, some ⟨79, .agg [.sl 3 1 0 a75, .sl 4 1 0 a76, .s (.slice none 0 0)], true⟩), (3, some ⟨3, .li .i64 a77, true⟩), (4, some ⟨9, .ls a78, true⟩)], 5, none⟩ K) (fun (a79 : Nat) (a80 : Nat) (a81 : List Int) (a82 : List ByteArray) => K (.exit 0) ⟨[(1, .s (.int .i64 i)), (2, .s (.string s)), (6, .ptr 0 3 0 0), (7, .ptr 1 3 0 0), (8, .s (.bool true))], [(0, some ⟨79, .agg [.s (.slice none 0 0), .s (.slice none 0 0), .s (.slice none 0 0)], true⟩), (1, some ⟨79, .agg [.sl 2 1 0 a79, .sl 3 1 0 a80, .s (.slice none 0 0)], true⟩), (2, some ⟨3, .li .i64 a81, true⟩), (3, some ⟨9, .ls a82, true⟩)], 4, none⟩) := by kernel_rfl
noncomputable def putF_l2 {R : Type} (fuel : Nat) (i : Int) (s : ByteArray) (a : List Int) (w1 : Int) (t : List ByteArray) (l : List ((Int × List Int) × ByteArray)) (k0 : Nat → Nat → List Int → List ByteArray → Option R) : Nat → Int → Nat → Nat → List Int → List ByteArray → Option R
  | 0, _, _, _, _, _ => none
  | k + 1, w54, w55, w56, w57, w58 =>
    (putF_s3 w54 w1 a i w57 w55 t w58 w56 s l (fun (a68 : Int) (a69 : Nat) (a70 : Nat) (a71 : List Int) (a72 : List ByteArray) => ( putF_l2 fuel i s a w1 t l k0 k a68 a69 a70 a71 a72 )) (fun (a74 : Int) (a75 : Nat) (a76 : Nat) (a77 : List Int) (a78 : List ByteArray) => ( putF_l2 fuel i s a w1 t l k0 k a74 a75 a76 a77 a78 )) (fun (a79 : Nat) (a80 : Nat) (a81 : List Int) (a82 : List ByteArray) => k0 a79 a80 a81 a82))
theorem putF_l2_eq (fuel : Nat) (i : Int) (s : ByteArray) (a : List Int) (w1 : Int) (t : List ByteArray) (l : List ((Int × List Int) × ByteArray)) (K : Ex → St → Option Out) : ∀ (k : Nat) (w54 : Int) (w55 : Nat) (w56 : Nat) (w57 : List Int) (w58 : List ByteArray), lpN (sub (bodyOf Tryd.prog 111) [1, 1, 1, 0, 1, 0, 0]) (fnX Tryd.prog mode10 T_refAll fuel 71 0) 2361111183840784679366 [1, 2, 3, 6, 7, 8, 13, 14, 15] k ⟨[(1, .s (.int .i64 i)), (2, .s (.string s)), (3, .ptr 0 3 0 0), (6, .ptr 1 3 0 0), (7, .ptr 2 3 0 0), (8, .s (.bool true)), (13, .li .i64 a), (14, .s (.int .i64 w1)), (15, .s (.int .i64 w54))], [(0, some ⟨79, .agg [.li .i64 a, .ls t, .lt (.pair (.pair (.int .i64) (.sl (.int .u64))) .str) l], true⟩), (1, some ⟨79, .agg [.s (.slice none 0 0), .s (.slice none 0 0), .s (.slice none 0 0)], true⟩), (2, some ⟨79, .agg [.sl 3 1 0 w55, .sl 4 1 0 w56, .s (.slice none 0 0)], true⟩), (3, some ⟨3, .li .i64 w57, true⟩), (4, some ⟨9, .ls w58, true⟩)], 5, none⟩ K = putF_l2 fuel i s a w1 t l (fun (y62 : Nat) (y63 : Nat) (y64 : List Int) (y65 : List ByteArray) => K (.exit 0) ⟨[(1, .s (.int .i64 i)), (2, .s (.string s)), (6, .ptr 0 3 0 0), (7, .ptr 1 3 0 0), (8, .s (.bool true))], [(0, some ⟨79, .agg [.s (.slice none 0 0), .s (.slice none 0 0), .s (.slice none 0 0)], true⟩), (1, some ⟨79, .agg [.sl 2 1 0 y62, .sl 3 1 0 y63, .s (.slice none 0 0)], true⟩), (2, some ⟨3, .li .i64 y64, true⟩), (3, some ⟨9, .ls y65, true⟩)], 4, none⟩) k w54 w55 w56 w57 w58
  | 0, _, _, _, _, _ => rfl
  | k + 1, w54, w55, w56, w57, w58 => by
    unfold putF_l2
    exact (putF_s3_eq fuel k K w54 w1 a i w57 w55 t w58 w56 s l).trans (congr (congr (congr (Eq.refl (putF_s3 (R := Out) w54 w1 a i w57 w55 t w58 w56 s l)) (funext fun a68 => funext fun a69 => funext fun a70 => funext fun a71 => funext fun a72 => putF_l2_eq fuel i s a w1 t l K k a68 a69 a70 a71 a72)) (funext fun a74 => funext fun a75 => funext fun a76 => funext fun a77 => funext fun a78 => putF_l2_eq fuel i s a w1 t l K k a74 a75 a76 a77 a78)) (rfl))
noncomputable def putF_s4 {R : Type} (w99 : Int) (w1 : Int) (a : List Int) (i : Int) (w98 : Bool) (w102 : List Int) (w100 : Nat) (w103 : List ByteArray) (w101 : Nat) (t : List ByteArray) (s : ByteArray) (l : List ((Int × List Int) × ByteArray)) (c0 : Bool → Int → Nat → Nat → List Int → List ByteArray → Option R) (c1 : Bool → Int → Nat → Nat → List Int → List ByteArray → Option R) (c2 : Bool → Int → Nat → Nat → List Int → List ByteArray → Option R) (c3 : Bool → Nat → Nat → List Int → List ByteArray → Option R) : Option R :=
  br (decide (w99 < w1))
    (bnd (ix a w99) fun e113 =>
    br (decide (e113 > i))
      (br (!w98)
        (grd (Nat.beq w102.length w100) <|
        grd (okN (w100 + 1) 8) <|
        grd (Nat.beq w103.length w101) <|
        grd (okN (w101 + 1) 16) <|
        grd (Nat.beq ((w102 ++ [i]).length) ((w102 ++ [i]).length)) <|
        grd (okN ((w102 ++ [i]).length + 1) 8) <|
        bnd (ix t w99) fun e114 =>
        grd (Nat.beq ((w103 ++ [s]).length) ((w103 ++ [s]).length)) <|
        grd (okN ((w103 ++ [s]).length + 1) 16) <|
        c0 true (IntKind.i64.wrap (w99 + 1)) (((w102 ++ [i]) ++ [e113]).length) (((w103 ++ [s]) ++ [e114]).length) ((w102 ++ [i]) ++ [e113]) ((w103 ++ [s]) ++ [e114]))
        (grd (Nat.beq w102.length w100) <|
        grd (okN (w100 + 1) 8) <|
        bnd (ix t w99) fun e121 =>
        grd (Nat.beq w103.length w101) <|
        grd (okN (w101 + 1) 16) <|
        c1 w98 (IntKind.i64.wrap (w99 + 1)) ((w102 ++ [e113]).length) ((w103 ++ [e121]).length) (w102 ++ [e113]) (w103 ++ [e121])))
      (grd (Nat.beq w102.length w100) <|
      grd (okN (w100 + 1) 8) <|
      bnd (ix t w99) fun e128 =>
      grd (Nat.beq w103.length w101) <|
      grd (okN (w101 + 1) 16) <|
      c2 w98 (IntKind.i64.wrap (w99 + 1)) ((w102 ++ [e113]).length) ((w103 ++ [e128]).length) (w102 ++ [e113]) (w103 ++ [e128])))
    (c3 w98 w100 w101 w102 w103)
theorem putF_s4_eq (fuel : Nat) (k : Nat) (K : Ex → St → Option Out) (w99 : Int) (w1 : Int) (a : List Int) (i : Int) (w98 : Bool) (w102 : List Int) (w100 : Nat) (w103 : List ByteArray) (w101 : Nat) (t : List ByteArray) (s : ByteArray) (l : List ((Int × List Int) × ByteArray)) : lpN (sub (bodyOf Tryd.prog 111) [1, 1, 1, 0, 1, 0, 0]) (fnX Tryd.prog mode10 T_refAll fuel 71 0) 2361111183840784679366 [1, 2, 3, 6, 7, 8, 13, 14, 15] (k + 1) ⟨[(1, .s (.int .i64 i)), (2, .s (.string s)), (3, .ptr 0 3 0 0), (6, .ptr 1 3 0 0), (7, .ptr 2 3 0 0), (8, .s (.bool w98)), (13, .li .i64 a), (14, .s (.int .i64 w1)), (15, .s (.int .i64 w99))], [(0, some ⟨79, .agg [.li .i64 a, .ls t, .lt (.pair (.pair (.int .i64) (.sl (.int .u64))) .str) l], true⟩), (1, some ⟨79, .agg [.s (.slice none 0 0), .s (.slice none 0 0), .s (.slice none 0 0)], true⟩), (2, some ⟨79, .agg [.sl 3 1 0 w100, .sl 4 1 0 w101, .s (.slice none 0 0)], true⟩), (3, some ⟨3, .li .i64 w102, true⟩), (4, some ⟨9, .ls w103, true⟩)], 5, none⟩ K = putF_s4 w99 w1 a i w98 w102 w100 w103 w101 t s l (fun (a115 : Bool) (a116 : Int) (a117 : Nat) (a118 : Nat) (a119 : List Int) (a120 : List ByteArray) => lpN (sub (bodyOf Tryd.prog 111) [1, 1, 1, 0, 1, 0, 0]) (fnX Tryd.prog mode10 T_refAll fuel 71 0) 2361111183840784679366 [1, 2, 3, 6, 7, 8, 13, 14, 15] k ⟨[(1, .s (.int .i64 i)), (2, .s (.string s)), (3, .ptr 0 3 0 0), (6, .ptr 1 3 0 0), (7, .ptr 2 3 0 0), (8, .s (.bool a115)), (13, .li .i64 a), (14, .s (.int .i64 w1)), (15, .s (.int .i64 a116))], [(0, some ⟨79, .agg [.li .i64 a, .ls t, .lt (.pair (.pair (.int .i64) (.sl (.int .u64))) .str) l], true⟩), (1, some ⟨79, .agg [.s (.slice none 0 0), .s (.slice none 0 0), .s (.slice none 0 0)], true⟩), (2, some ⟨79, .agg [.sl 3 1 0 a117, .sl 4 1 0 a118, .s (.slice none 0 0)], true⟩), (3, some ⟨3, .li .i64 a119, true⟩), (4, some ⟨9, .ls a120, true⟩)], 5, none⟩ K) (fun (a122 : Bool) (a123 : Int) (a124 : Nat) (a125 : Nat) (a126 : List Int) (a127 : List ByteArray) => lpN (sub (bodyOf Tryd.prog 111) [1, 1, 1, 0, 1, 0, 0]) (fnX Tryd.prog mode10 T_refAll fuel 71 0) 2361111183840784679366 [1, 2, 3, 6, 7, 8, 13, 14, 15] k ⟨[(1, .s (.int .i64 i)), (2, .s (.string s)), (3, .ptr 0 3 0 0), (6, .ptr 1 3 0 0), (7, .ptr 2 3 0 0), (8, .s (.bool a122)), (13, .li .i64 a), (14, .s (.int .i64 w1)), (15, .s (.int .i64 a123))], [(0, some ⟨79, .agg [.li .i64 a, .ls t, .lt (.pair (.pair (.int .i64) (.sl (.int .u64))) .str) l], true⟩), (1, some ⟨79, .agg [.s (.slice none 0 0), .s (.slice none 0 0), .s (.slice none 0 0)], true⟩), (2, some ⟨79, .agg [.sl 3 1 0 a124, .sl 4 1 0 a125, .s (.slice none 0 0)], true⟩), (3, some ⟨3, .li .i64 a126, true⟩), (4, some ⟨9, .ls a127, true⟩)], 5, none⟩ K) (fun (a129 : Bool) (a130 : Int) (a131 : Nat) (a132 : Nat) (a133 : List Int) (a134 : List ByteArray) => lpN (sub (bodyOf Tryd.prog 111) [1, 1, 1, 0, 1, 0, 0]) (fnX Tryd.prog mode10 T_refAll fuel 71 0) 2361111183840784679366 [1, 2, 3, 6, 7, 8, 13, 14, 15] k ⟨[(1, .s (.int .i64 i)), (2, .s (.string s)), (3, .ptr 0 3 0 0), (6, .ptr 1 3 0 0), (7, .ptr 2 3 0 0), (8, .s (.bool a129)), (13, .li .i64 a), (14, .s (.int .i64 w1)), (15, .s (.int .i64 a130))], [(0, some ⟨79, .agg [.li .i64 a, .ls t, .lt (.pair (.pair (.int .i64) (.sl (.int .u64))) .str) l], true⟩), (1, some ⟨79, .agg [.s (.slice none 0 0), .s (.slice none 0 0), .s (.slice none 0 0)], true⟩), (2, some ⟨79, .agg [.sl 3 1 0 a131, .sl 4 1 0 a132, .s (.slice none 0 0)], true⟩), (3, some ⟨3, .li .i64 a133, true⟩), (4, some ⟨9, .ls a134, true⟩)], 5, none⟩ K) (fun (a135 : Bool) (a136 : Nat) (a137 : Nat) (a138 : List Int) (a139 : List ByteArray) => K (.exit 0) ⟨[(1, .s (.int .i64 i)), (2, .s (.string s)), (6, .ptr 0 3 0 0), (7, .ptr 1 3 0 0), (8, .s (.bool a135))], [(0, some ⟨79, .agg [.s (.slice none 0 0), .s (.slice none 0 0), .s (.slice none 0 0)], true⟩), (1, some ⟨79, .agg [.sl 2 1 0 a136, .sl 3 1 0 a137, .s (.slice none 0 0)], true⟩), (2, some ⟨3, .li .i64 a138, true⟩), (3, some ⟨9, .ls a139, true⟩)], 4, none⟩) := by kernel_rfl
noncomputable def putF_l3 {R : Type} (fuel : Nat) (i : Int) (s : ByteArray) (a : List Int) (w1 : Int) (t : List ByteArray) (l : List ((Int × List Int) × ByteArray)) (k0 : Bool → Nat → Nat → List Int → List ByteArray → Option R) : Nat → Bool → Int → Nat → Nat → List Int → List ByteArray → Option R
  | 0, _, _, _, _, _, _ => none
  | k + 1, w98, w99, w100, w101, w102, w103 =>
    (putF_s4 w99 w1 a i w98 w102 w100 w103 w101 t s l (fun (a115 : Bool) (a116 : Int) (a117 : Nat) (a118 : Nat) (a119 : List Int) (a120 : List ByteArray) => ( putF_l3 fuel i s a w1 t l k0 k a115 a116 a117 a118 a119 a120 )) (fun (a122 : Bool) (a123 : Int) (a124 : Nat) (a125 : Nat) (a126 : List Int) (a127 : List ByteArray) => ( putF_l3 fuel i s a w1 t l k0 k a122 a123 a124 a125 a126 a127 )) (fun (a129 : Bool) (a130 : Int) (a131 : Nat) (a132 : Nat) (a133 : List Int) (a134 : List ByteArray) => ( putF_l3 fuel i s a w1 t l k0 k a129 a130 a131 a132 a133 a134 )) (fun (a135 : Bool) (a136 : Nat) (a137 : Nat) (a138 : List Int) (a139 : List ByteArray) => k0 a135 a136 a137 a138 a139))
theorem putF_l3_eq (fuel : Nat) (i : Int) (s : ByteArray) (a : List Int) (w1 : Int) (t : List ByteArray) (l : List ((Int × List Int) × ByteArray)) (K : Ex → St → Option Out) : ∀ (k : Nat) (w98 : Bool) (w99 : Int) (w100 : Nat) (w101 : Nat) (w102 : List Int) (w103 : List ByteArray), lpN (sub (bodyOf Tryd.prog 111) [1, 1, 1, 0, 1, 0, 0]) (fnX Tryd.prog mode10 T_refAll fuel 71 0) 2361111183840784679366 [1, 2, 3, 6, 7, 8, 13, 14, 15] k ⟨[(1, .s (.int .i64 i)), (2, .s (.string s)), (3, .ptr 0 3 0 0), (6, .ptr 1 3 0 0), (7, .ptr 2 3 0 0), (8, .s (.bool w98)), (13, .li .i64 a), (14, .s (.int .i64 w1)), (15, .s (.int .i64 w99))], [(0, some ⟨79, .agg [.li .i64 a, .ls t, .lt (.pair (.pair (.int .i64) (.sl (.int .u64))) .str) l], true⟩), (1, some ⟨79, .agg [.s (.slice none 0 0), .s (.slice none 0 0), .s (.slice none 0 0)], true⟩), (2, some ⟨79, .agg [.sl 3 1 0 w100, .sl 4 1 0 w101, .s (.slice none 0 0)], true⟩), (3, some ⟨3, .li .i64 w102, true⟩), (4, some ⟨9, .ls w103, true⟩)], 5, none⟩ K = putF_l3 fuel i s a w1 t l (fun (y108 : Bool) (y109 : Nat) (y110 : Nat) (y111 : List Int) (y112 : List ByteArray) => K (.exit 0) ⟨[(1, .s (.int .i64 i)), (2, .s (.string s)), (6, .ptr 0 3 0 0), (7, .ptr 1 3 0 0), (8, .s (.bool y108))], [(0, some ⟨79, .agg [.s (.slice none 0 0), .s (.slice none 0 0), .s (.slice none 0 0)], true⟩), (1, some ⟨79, .agg [.sl 2 1 0 y109, .sl 3 1 0 y110, .s (.slice none 0 0)], true⟩), (2, some ⟨3, .li .i64 y111, true⟩), (3, some ⟨9, .ls y112, true⟩)], 4, none⟩) k w98 w99 w100 w101 w102 w103
  | 0, _, _, _, _, _, _ => rfl
  | k + 1, w98, w99, w100, w101, w102, w103 => by
    unfold putF_l3
    exact (putF_s4_eq fuel k K w99 w1 a i w98 w102 w100 w103 w101 t s l).trans (congr (congr (congr (congr (Eq.refl (putF_s4 (R := Out) w99 w1 a i w98 w102 w100 w103 w101 t s l)) (funext fun a115 => funext fun a116 => funext fun a117 => funext fun a118 => funext fun a119 => funext fun a120 => putF_l3_eq fuel i s a w1 t l K k a115 a116 a117 a118 a119 a120)) (funext fun a122 => funext fun a123 => funext fun a124 => funext fun a125 => funext fun a126 => funext fun a127 => putF_l3_eq fuel i s a w1 t l K k a122 a123 a124 a125 a126 a127)) (funext fun a129 => funext fun a130 => funext fun a131 => funext fun a132 => funext fun a133 => funext fun a134 => putF_l3_eq fuel i s a w1 t l K k a129 a130 a131 a132 a133 a134)) (rfl))
noncomputable def putF_s2 {R : Type} (w1 : Int) (a : List Int) (i : Int) (t : List ByteArray) (s : ByteArray) (l : List ((Int × List Int) × ByteArray)) (c0 : Int → Nat → Nat → List Int → List ByteArray → Option R) (c1 : Bool → Int → Nat → Nat → List Int → List ByteArray → Option R) (c2 : Option R) : Option R :=
  br (decide (0 < w1))
    (bnd (ix a 0) fun e47 =>
    br (decide (e47 > i))
      (bnd (ix t 0) fun e48 =>
      c0 1 2 2 ([i, e47]) ([s, e48]))
      (bnd (ix t 0) fun e92 =>
      c1 false 1 1 1 ([e47]) ([e92])))
    (c2)
theorem putF_s2_eq (fuel : Nat) (k : Nat) (K : Ex → St → Option Out) (w1 : Int) (a : List Int) (i : Int) (t : List ByteArray) (s : ByteArray) (l : List ((Int × List Int) × ByteArray)) : lpN (sub (bodyOf Tryd.prog 111) [1, 1, 1, 0, 1, 0, 0]) (fnX Tryd.prog mode10 T_refAll fuel 71 0) 2361111183840784679366 [1, 2, 3, 6, 7, 8, 13, 14, 15] (k + 1) ⟨[(1, .s (.int .i64 i)), (2, .s (.string s)), (3, .ptr 0 3 0 0), (6, .ptr 1 3 0 0), (7, .ptr 2 3 0 0), (8, .s (.bool false)), (13, .li .i64 a), (14, .s (.int .i64 w1)), (15, .s (.int .i64 0))], [(0, some ⟨79, .agg [.li .i64 a, .ls t, .lt (.pair (.pair (.int .i64) (.sl (.int .u64))) .str) l], true⟩), (1, some ⟨79, .agg [.s (.slice none 0 0), .s (.slice none 0 0), .s (.slice none 0 0)], true⟩), (2, some ⟨79, .agg [.s (.slice none 0 0), .s (.slice none 0 0), .s (.slice none 0 0)], true⟩)], 3, none⟩ K = putF_s2 w1 a i t s l (fun (a83 : Int) (a84 : Nat) (a85 : Nat) (a86 : List Int) (a87 : List ByteArray) => lpN (sub (bodyOf Tryd.prog 111) [1, 1, 1, 0, 1, 0, 0]) (fnX Tryd.prog mode10 T_refAll fuel 71 0) 2361111183840784679366 [1, 2, 3, 6, 7, 8, 13, 14, 15] k ⟨[(1, .s (.int .i64 i)), (2, .s (.string s)), (3, .ptr 0 3 0 0), (6, .ptr 1 3 0 0), (7, .ptr 2 3 0 0), (8, .s (.bool true)), (13, .li .i64 a), (14, .s (.int .i64 w1)), (15, .s (.int .i64 a83))], [(0, some ⟨79, .agg [.li .i64 a, .ls t, .lt (.pair (.pair (.int .i64) (.sl (.int .u64))) .str) l], true⟩), (1, some ⟨79, .agg [.s (.slice none 0 0), .s (.slice none 0 0), .s (.slice none 0 0)], true⟩), (2, some ⟨79, .agg [.sl 3 1 0 a84, .sl 4 1 0 a85, .s (.slice none 0 0)], true⟩), (3, some ⟨3, .li .i64 a86, true⟩), (4, some ⟨9, .ls a87, true⟩)], 5, none⟩ K) (fun (a140 : Bool) (a141 : Int) (a142 : Nat) (a143 : Nat) (a144 : List Int) (a145 : List ByteArray) => lpN (sub (bodyOf Tryd.prog 111) [1, 1, 1, 0, 1, 0, 0]) (fnX Tryd.prog mode10 T_refAll fuel 71 0) 2361111183840784679366 [1, 2, 3, 6, 7, 8, 13, 14, 15] k ⟨[(1, .s (.int .i64 i)), (2, .s (.string s)), (3, .ptr 0 3 0 0), (6, .ptr 1 3 0 0), (7, .ptr 2 3 0 0), (8, .s (.bool a140)), (13, .li .i64 a), (14, .s (.int .i64 w1)), (15, .s (.int .i64 a141))], [(0, some ⟨79, .agg [.li .i64 a, .ls t, .lt (.pair (.pair (.int .i64) (.sl (.int .u64))) .str) l], true⟩), (1, some ⟨79, .agg [.s (.slice none 0 0), .s (.slice none 0 0), .s (.slice none 0 0)], true⟩), (2, some ⟨79, .agg [.sl 3 1 0 a142, .sl 4 1 0 a143, .s (.slice none 0 0)], true⟩), (3, some ⟨3, .li .i64 a144, true⟩), (4, some ⟨9, .ls a145, true⟩)], 5, none⟩ K) (K (.exit 0) ⟨[(1, .s (.int .i64 i)), (2, .s (.string s)), (6, .ptr 0 3 0 0), (7, .ptr 1 3 0 0), (8, .s (.bool false))], [(0, some ⟨79, .agg [.s (.slice none 0 0), .s (.slice none 0 0), .s (.slice none 0 0)], true⟩), (1, some ⟨79, .agg [.s (.slice none 0 0), .s (.slice none 0 0), .s (.slice none 0 0)], true⟩)], 2, none⟩) := by kernel_rfl
noncomputable def putF_l1 {R : Type} (fuel : Nat) (i : Int) (s : ByteArray) (a : List Int) (t : List ByteArray) (l : List ((Int × List Int) × ByteArray)) (k0 : Bool → Nat → Nat → List Int → List ByteArray → Option R) (k1 : Option R) : Nat → Int → Option R
  | 0, _ => none
  | k + 1, w1 =>
    (putF_s2 w1 a i t s l (fun (a83 : Int) (a84 : Nat) (a85 : Nat) (a86 : List Int) (a87 : List ByteArray) => (putF_l2 fuel i s a w1 t l (fun (x88 : Nat) (x89 : Nat) (x90 : List Int) (x91 : List ByteArray) => k0 true x88 x89 x90 x91) k a83 a84 a85 a86 a87)) (fun (a140 : Bool) (a141 : Int) (a142 : Nat) (a143 : Nat) (a144 : List Int) (a145 : List ByteArray) => (putF_l3 fuel i s a w1 t l (fun (x146 : Bool) (x147 : Nat) (x148 : Nat) (x149 : List Int) (x150 : List ByteArray) => k0 x146 x147 x148 x149 x150) k a140 a141 a142 a143 a144 a145)) (k1))
theorem putF_l1_eq (fuel : Nat) (i : Int) (s : ByteArray) (a : List Int) (t : List ByteArray) (l : List ((Int × List Int) × ByteArray)) (K : Ex → St → Option Out) : ∀ (k : Nat) (w1 : Int), lpN (sub (bodyOf Tryd.prog 111) [1, 1, 1, 0, 1, 0, 0]) (fnX Tryd.prog mode10 T_refAll fuel 71 0) 2361111183840784679366 [1, 2, 3, 6, 7, 8, 13, 14, 15] k ⟨[(1, .s (.int .i64 i)), (2, .s (.string s)), (3, .ptr 0 3 0 0), (6, .ptr 1 3 0 0), (7, .ptr 2 3 0 0), (8, .s (.bool false)), (13, .li .i64 a), (14, .s (.int .i64 w1)), (15, .s (.int .i64 0))], [(0, some ⟨79, .agg [.li .i64 a, .ls t, .lt (.pair (.pair (.int .i64) (.sl (.int .u64))) .str) l], true⟩), (1, some ⟨79, .agg [.s (.slice none 0 0), .s (.slice none 0 0), .s (.slice none 0 0)], true⟩), (2, some ⟨79, .agg [.s (.slice none 0 0), .s (.slice none 0 0), .s (.slice none 0 0)], true⟩)], 3, none⟩ K = putF_l1 fuel i s a t l (fun (y42 : Bool) (y43 : Nat) (y44 : Nat) (y45 : List Int) (y46 : List ByteArray) => K (.exit 0) ⟨[(1, .s (.int .i64 i)), (2, .s (.string s)), (6, .ptr 0 3 0 0), (7, .ptr 1 3 0 0), (8, .s (.bool y42))], [(0, some ⟨79, .agg [.s (.slice none 0 0), .s (.slice none 0 0), .s (.slice none 0 0)], true⟩), (1, some ⟨79, .agg [.sl 2 1 0 y43, .sl 3 1 0 y44, .s (.slice none 0 0)], true⟩), (2, some ⟨3, .li .i64 y45, true⟩), (3, some ⟨9, .ls y46, true⟩)], 4, none⟩) (K (.exit 0) ⟨[(1, .s (.int .i64 i)), (2, .s (.string s)), (6, .ptr 0 3 0 0), (7, .ptr 1 3 0 0), (8, .s (.bool false))], [(0, some ⟨79, .agg [.s (.slice none 0 0), .s (.slice none 0 0), .s (.slice none 0 0)], true⟩), (1, some ⟨79, .agg [.s (.slice none 0 0), .s (.slice none 0 0), .s (.slice none 0 0)], true⟩)], 2, none⟩) k w1
  | 0, _ => rfl
  | k + 1, w1 => by
    unfold putF_l1
    exact (putF_s2_eq fuel k K w1 a i t s l).trans (congr (congr (congr (Eq.refl (putF_s2 (R := Out) w1 a i t s l)) (funext fun a83 => funext fun a84 => funext fun a85 => funext fun a86 => funext fun a87 => putF_l2_eq fuel i s a w1 t l K k a83 a84 a85 a86 a87)) (funext fun a140 => funext fun a141 => funext fun a142 => funext fun a143 => funext fun a144 => funext fun a145 => putF_l3_eq fuel i s a w1 t l K k a140 a141 a142 a143 a144 a145)) (rfl))
noncomputable def putF_s5 {R : Type} (x152 : Bool) (x155 : List Int) (x153 : Nat) (x156 : List ByteArray) (x154 : Nat) (i : Int) (s : ByteArray) (c0 : List Int → List ByteArray → Option R) : Option R :=
  br (!x152)
    (grd (Nat.beq x155.length x153) <|
    grd (okN (x153 + 1) 8) <|
    grd (Nat.beq x156.length x154) <|
    grd (okN (x154 + 1) 16) <|
    c0 (((x155 ++ [i]).drop 0).take ((x155 ++ [i]).length)) (((x156 ++ [s]).drop 0).take ((x156 ++ [s]).length)))
    (c0 ((x155.drop 0).take x153) ((x156.drop 0).take x154))
theorem putF_s5_eq (fuel : Nat)  (x152 : Bool) (x155 : List Int) (x153 : Nat) (x156 : List ByteArray) (x154 : Nat) (i : Int) (s : ByteArray) : (kont (fnX Tryd.prog mode10 T_refAll fuel 71 0) (bodyOf Tryd.prog 111) [1, 1, 1, 0, 1, 0] 64 (endK Tryd.prog 0 0 111)) (.exit 0) ⟨[(1, .s (.int .i64 i)), (2, .s (.string s)), (6, .ptr 0 3 0 0), (7, .ptr 1 3 0 0), (8, .s (.bool x152))], [(0, some ⟨79, .agg [.s (.slice none 0 0), .s (.slice none 0 0), .s (.slice none 0 0)], true⟩), (1, some ⟨79, .agg [.sl 2 1 0 x153, .sl 3 1 0 x154, .s (.slice none 0 0)], true⟩), (2, some ⟨3, .li .i64 x155, true⟩), (3, some ⟨9, .ls x156, true⟩)], 4, none⟩ = putF_s5 x152 x155 x153 x156 x154 i s (fun (a157 : List Int) (a158 : List ByteArray) => some (.agg [.li .i64 a157, .ls a158, .s (.slice none 0 0)], [])) := by kernel_rfl
noncomputable def putF_s6 {R : Type} (i : Int) (s : ByteArray) (c0 : List Int → List ByteArray → Option R) : Option R :=
  c0 ([i]) ([s])
theorem putF_s6_eq (fuel : Nat)  (i : Int) (s : ByteArray) : (kont (fnX Tryd.prog mode10 T_refAll fuel 71 0) (bodyOf Tryd.prog 111) [1, 1, 1, 0, 1, 0] 64 (endK Tryd.prog 0 0 111)) (.exit 0) ⟨[(1, .s (.int .i64 i)), (2, .s (.string s)), (6, .ptr 0 3 0 0), (7, .ptr 1 3 0 0), (8, .s (.bool false))], [(0, some ⟨79, .agg [.s (.slice none 0 0), .s (.slice none 0 0), .s (.slice none 0 0)], true⟩), (1, some ⟨79, .agg [.s (.slice none 0 0), .s (.slice none 0 0), .s (.slice none 0 0)], true⟩)], 2, none⟩ = putF_s6 i s (fun (a161 : List Int) (a162 : List ByteArray) => some (.agg [.li .i64 a161, .ls a162, .s (.slice none 0 0)], [])) := by kernel_rfl
noncomputable def putF_s1 {R : Type} (a : List Int) (t : List ByteArray) (l : List ((Int × List Int) × ByteArray)) (i : Int) (s : ByteArray) (c0 : Int → Option R) : Option R :=
  c0 ((a.length : Nat) : Int)
theorem putF_s1_eq (fuel : Nat)  (a : List Int) (t : List ByteArray) (l : List ((Int × List Int) × ByteArray)) (i : Int) (s : ByteArray) : callN Tryd.prog mode10 T_refAll fuel 111 [.agg [.li .i64 a, .ls t, .lt (.pair (.pair (.int .i64) (.sl (.int .u64))) .str) l], .s (.int .i64 i), .s (.string s)] [] = putF_s1 a t l i s (fun (a151 : Int) => lpN (sub (bodyOf Tryd.prog 111) [1, 1, 1, 0, 1, 0, 0]) (fnX Tryd.prog mode10 T_refAll fuel 71 0) 2361111183840784679366 [1, 2, 3, 6, 7, 8, 13, 14, 15] fuel ⟨[(1, .s (.int .i64 i)), (2, .s (.string s)), (3, .ptr 0 3 0 0), (6, .ptr 1 3 0 0), (7, .ptr 2 3 0 0), (8, .s (.bool false)), (13, .li .i64 a), (14, .s (.int .i64 a151)), (15, .s (.int .i64 0))], [(0, some ⟨79, .agg [.li .i64 a, .ls t, .lt (.pair (.pair (.int .i64) (.sl (.int .u64))) .str) l], true⟩), (1, some ⟨79, .agg [.s (.slice none 0 0), .s (.slice none 0 0), .s (.slice none 0 0)], true⟩), (2, some ⟨79, .agg [.s (.slice none 0 0), .s (.slice none 0 0), .s (.slice none 0 0)], true⟩)], 3, none⟩ (kont (fnX Tryd.prog mode10 T_refAll fuel 71 0) (bodyOf Tryd.prog 111) [1, 1, 1, 0, 1, 0] 64 (endK Tryd.prog 0 0 111))) := by kernel_rfl
noncomputable def putF {R : Type} (fuel : Nat) (a : List Int) (t : List ByteArray) (l : List ((Int × List Int) × ByteArray)) (i : Int) (s : ByteArray) (r0 : List Int → List ByteArray → Option R) : Option R :=
  (putF_s1 a t l i s (fun (a151 : Int) => (putF_l1 fuel i s a t l (fun (x152 : Bool) (x153 : Nat) (x154 : Nat) (x155 : List Int) (x156 : List ByteArray) => (putF_s5 x152 x155 x153 x156 x154 i s (fun (a157 : List Int) (a158 : List ByteArray) => r0 a157 a158))) ((putF_s6 i s (fun (a161 : List Int) (a162 : List ByteArray) => r0 a161 a162))) fuel a151)))
theorem putF_eq (fuel : Nat) (a : List Int) (t : List ByteArray) (l : List ((Int × List Int) × ByteArray)) (i : Int) (s : ByteArray) : callN Tryd.prog mode10 T_refAll fuel 111 [.agg [.li .i64 a, .ls t, .lt (.pair (.pair (.int .i64) (.sl (.int .u64))) .str) l], .s (.int .i64 i), .s (.string s)] [] = putF fuel a t l i s (fun (z0 : List Int) (z1 : List ByteArray) => some (.agg [.li .i64 z0, .ls z1, .s (.slice none 0 0)], [])) := by
  unfold putF
  exact (putF_s1_eq fuel  a t l i s).trans (congr (Eq.refl (putF_s1 (R := Out) a t l i s)) (funext fun a151 => (putF_l1_eq fuel i s a t l (kont (fnX Tryd.prog mode10 T_refAll fuel 71 0) (bodyOf Tryd.prog 111) [1, 1, 1, 0, 1, 0] 64 (endK Tryd.prog 0 0 111)) fuel a151).trans (congrFun (congrFun (congr (congr (Eq.refl (putF_l1 (R := Out) fuel i s a t l)) (funext fun x152 => funext fun x153 => funext fun x154 => funext fun x155 => funext fun x156 => (putF_s5_eq fuel  x152 x155 x153 x156 x154 i s))) ((putF_s6_eq fuel  i s))) fuel) a151)))
theorem put_done {R : Type} (fuel : Nat) (i : Int) (s : ByteArray) (a : List Int) (t : List ByteArray) (l : List Eqn) (hl : t.length = a.length) (hx : a.length ≤ 1000) (k0 : Nat → Nat → List Int → List ByteArray → Option R) : ∀ (k j : Nat) (x : List Int) (y : List ByteArray), j ≤ a.length → a.length < j + k → x.length ≤ j + 1 → y.length ≤ j + 1 →
    putF_l2 fuel i s a (a.length : Int) t l k0 k (j : Int) x.length y.length x y = k0 (x ++ a.drop j).length (y ++ t.drop j).length (x ++ a.drop j) (y ++ t.drop j)
  | 0, j, x, y, h1, h2, _, _ => by omega
  | k + 1, j, x, y, h1, h2, hxl, hyl => by
    unfold putF_l2 putF_s3
    rw [br_if]
    by_cases hc : j < a.length
    · have hct : j < t.length := by omega
      have ih := put_done fuel i s a t l hl hx k0 k (j + 1) (x ++ [a[j]]) (y ++ [t[j]]) (by omega) (by omega) (by simp; omega) (by simp; omega)
      rw [List.append_assoc, List.append_assoc] at ih
      rw [if_pos (by simpa using hc), bnd_of ((ix_nat a j).trans (List.getElem?_eq_getElem hc)), br_if, List.drop_eq_getElem_cons hc, List.drop_eq_getElem_cons hct, grd_of (beq_self _), grd_of (okN_of (by omega) (by omega)), bnd_of ((ix_nat t j).trans (List.getElem?_eq_getElem hct)), grd_of (beq_self _), grd_of (okN_of (by omega) (by omega)), wrap_i64 (by omega) (by omega), show (j : Int) + 1 = ((j + 1 : Nat) : Int) by omega]
      split <;> exact ih
    · rw [if_neg (by simpa using hc), List.drop_eq_nil_of_le (by omega), List.drop_eq_nil_of_le (by omega), List.append_nil, List.append_nil]
theorem put_true {R : Type} (fuel : Nat) (i : Int) (s : ByteArray) (a : List Int) (t : List ByteArray) (l : List Eqn) (hl : t.length = a.length) (hx : a.length ≤ 1000) (k0 : Bool → Nat → Nat → List Int → List ByteArray → Option R) : ∀ (k j : Nat) (x : List Int) (y : List ByteArray), j ≤ a.length → a.length < j + k → x.length ≤ j + 1 → y.length ≤ j + 1 →
    putF_l3 fuel i s a (a.length : Int) t l k0 k true (j : Int) x.length y.length x y = k0 true (x ++ a.drop j).length (y ++ t.drop j).length (x ++ a.drop j) (y ++ t.drop j)
  | 0, j, x, y, h1, h2, _, _ => by omega
  | k + 1, j, x, y, h1, h2, hxl, hyl => by
    unfold putF_l3 putF_s4
    rw [br_if]
    by_cases hc : j < a.length
    · have hct : j < t.length := by omega
      have ih := put_true fuel i s a t l hl hx k0 k (j + 1) (x ++ [a[j]]) (y ++ [t[j]]) (by omega) (by omega) (by simp; omega) (by simp; omega)
      rw [List.append_assoc, List.append_assoc] at ih
      have et := (ix_nat t j).trans (List.getElem?_eq_getElem hct)
      rw [if_pos (by simpa using hc), bnd_of ((ix_nat a j).trans (List.getElem?_eq_getElem hc)), br_if, List.drop_eq_getElem_cons hc, List.drop_eq_getElem_cons hct, Bool.not_true, br_ff, grd_of (beq_self _), grd_of (okN_of (by omega) (by omega)), bnd_of et, grd_of (beq_self _), grd_of (okN_of (by omega) (by omega)), wrap_i64 (by omega) (by omega), show (j : Int) + 1 = ((j + 1 : Nat) : Int) by omega]
      split <;> exact ih
    · rw [if_neg (by simpa using hc), List.drop_eq_nil_of_le (by omega), List.drop_eq_nil_of_le (by omega), List.append_nil, List.append_nil]
theorem put_false {R : Type} (fuel : Nat) (i : Int) (s : ByteArray) (a : List Int) (t : List ByteArray) (l : List Eqn) (hl : t.length = a.length) (hx : a.length ≤ 1000) (k0 : Bool → Nat → Nat → List Int → List ByteArray → Option R) (hk : ∀ (x : List Int) (y : List ByteArray), x.length ≤ 1000 → y.length ≤ 1000 → k0 false x.length y.length x y = k0 true (x ++ [i]).length (y ++ [s]).length (x ++ [i]) (y ++ [s])) : ∀ (k j : Nat) (x : List Int) (y : List ByteArray), j ≤ a.length → a.length < j + k → x.length ≤ j → y.length ≤ j →
    putF_l3 fuel i s a (a.length : Int) t l k0 k false (j : Int) x.length y.length x y = k0 true (x ++ putA (a.drop j) i).length (y ++ putT (a.drop j) (t.drop j) i s).length (x ++ putA (a.drop j) i) (y ++ putT (a.drop j) (t.drop j) i s)
  | 0, j, x, y, h1, h2, _, _ => by omega
  | k + 1, j, x, y, h1, h2, hxl, hyl => by
    unfold putF_l3 putF_s4
    rw [br_if]
    by_cases hc : j < a.length
    · have hct : j < t.length := by omega
      have et := (ix_nat t j).trans (List.getElem?_eq_getElem hct)
      rw [if_pos (by simpa using hc), bnd_of ((ix_nat a j).trans (List.getElem?_eq_getElem hc)), br_if, List.drop_eq_getElem_cons hc, List.drop_eq_getElem_cons hct, putA, putT, wrap_i64 (by omega) (by omega), show (j : Int) + 1 = ((j + 1 : Nat) : Int) by omega]
      by_cases h : a[j] > i
      · rw [if_pos (by simpa using h), if_pos h, if_pos h, Bool.not_false, br_tt, grd_of (beq_self _), grd_of (okN_of (by omega) (by omega)), grd_of (beq_self _), grd_of (okN_of (by omega) (by omega)), grd_of (beq_self _), grd_of (okN_of (by simp; omega) (by simp; omega)), bnd_of et, grd_of (beq_self _), grd_of (okN_of (by simp; omega) (by simp; omega))]
        cases k with
        | zero => omega
        | succ k =>
          have := put_true fuel i s a t l hl hx k0 (k + 1) (j + 1) ((x ++ [i]) ++ [a[j]]) ((y ++ [s]) ++ [t[j]]) (by omega) (by omega) (by simp; omega) (by simp; omega)
          simp only [List.append_assoc, List.cons_append, List.nil_append] at this ⊢
          exact this
      · have ih := put_false fuel i s a t l hl hx k0 hk k (j + 1) (x ++ [a[j]]) (y ++ [t[j]]) (by omega) (by omega) (by simp; omega) (by simp; omega)
        rw [List.append_assoc, List.append_assoc] at ih
        rw [if_neg (by simpa using h), if_neg h, if_neg h, grd_of (beq_self _), grd_of (okN_of (by omega) (by omega)), bnd_of et, grd_of (beq_self _), grd_of (okN_of (by omega) (by omega))]
        exact ih
    · rw [if_neg (by simpa using hc), List.drop_eq_nil_of_le (by omega), List.drop_eq_nil_of_le (by omega)]
      exact hk x y (by omega) (by omega)
theorem put_fact (a : List Int) (t : List ByteArray) (l : List ((Int × List Int) × ByteArray)) (i : Int) (s : ByteArray) (hg : (decide (List.length (α := Int) a = List.length (α := ByteArray) t) && decide (List.length (α := Int) a ≤ 1000)) = true) : Fact Tryd.prog gTab 111 [.agg [.li .i64 a, .ls t, .lt (.pair (.pair (.int .i64) (.sl (.int .u64))) .str) l], .s (.int .i64 i), .s (.string s)] [] (.agg [.li .i64 (putA a i), .ls (putT a t i s), .s (.slice none 0 0)], []) := by
  simp only [Bool.and_eq_true, decide_eq_true_eq] at hg
  obtain ⟨hl, hx⟩ := hg
  refine callN_fact hN hM T_refAll_ok (n := 1002 + 1) (mode := mode10) ?_
  rw [putF_eq]
  unfold putF putF_s1 putF_l1 putF_s2
  dsimp only
  rw [br_if]
  cases a with
  | nil =>
    cases t with
    | nil => rfl
    | cons y u => simp at hl
  | cons x a =>
    cases t with
    | nil => simp at hl
    | cons y u =>
      have e0 : ix (x :: a) 0 = some x := rfl
      have e1 : ix (y :: u) 0 = some y := rfl
      have hl' : (y :: u).length = (x :: a).length := by omega
      rw [if_pos (by simp), bnd_of e0, br_if, putA, putT]
      have s5 : ∀ (p : List Int) (q : List ByteArray), putF_s5 true p p.length q q.length i s (fun (a157 : List Int) (a158 : List ByteArray) => (some (.agg [.li .i64 a157, .ls a158, .s (.slice none 0 0)], []) : Option Out)) = some (.agg [.li .i64 p, .ls q, .s (.slice none 0 0)], []) := fun p q => by
        unfold putF_s5
        rw [Bool.not_true, br_ff, List.drop_zero, List.take_length, List.drop_zero, List.take_length]
      by_cases h : x > i
      · rw [if_pos (by simpa using h), if_pos h, if_pos h, bnd_of e1]
        have := put_done (R := Out) (1002 + 1) i s (x :: a) (y :: u) l hl' hx
        refine (this _ 1002 1 [i, x] [s, y] (by simp) (by omega) (by simp) (by simp)).trans ?_
        exact s5 _ _
      · rw [if_neg (by simpa using h), if_neg h, if_neg h, bnd_of e1]
        have := put_false (R := Out) (1002 + 1) i s (x :: a) (y :: u) l hl' hx
        refine (this _ (fun p q hp hq => ?_) 1002 1 [x] [y] (by simp) (by omega) (by simp) (by simp)).trans ?_
        · refine Eq.trans ?_ (s5 _ _).symm
          unfold putF_s5
          rw [Bool.not_false, br_tt, grd_of (beq_self _), grd_of (okN_of (by omega) (by omega)), grd_of (beq_self _), grd_of (okN_of (by omega) (by omega)), List.drop_zero, List.take_length, List.drop_zero, List.take_length]
        · exact s5 _ _
noncomputable def put_ent : List V → List Blk → Option (Bool × Out)
  | [.agg [w0, w1, w2], .s (.int .i64 i), .s (.string s)], [] => (asSl (.int .i64) w0).bind fun a => (asSl .str w1).bind fun t => (asSl (.pair (.pair (.int .i64) (.sl (.int .u64))) .str) w2).bind fun l => some ((decide (List.length (α := Int) a = List.length (α := ByteArray) t) && decide (List.length (α := Int) a ≤ 1000)), (.agg [.li .i64 (putA a i), .ls (putT a t i s), .s (.slice none 0 0)], []))
  | _, _ => none
theorem put_ok : ∀ args bs out, put_ent args bs = some (true, out) → Fact Tryd.prog gTab 111 args bs out := by
  intro args bs out h
  unfold put_ent at h
  split at h
  · rename_i w0 w1 w2 i s
    obtain ⟨a, h_a, h⟩ := Option.bind_eq_some_iff.1 h
    obtain ⟨t, h_t, h⟩ := Option.bind_eq_some_iff.1 h
    obtain ⟨l, h_l, h⟩ := Option.bind_eq_some_iff.1 h
    simp only [Option.some.injEq, Prod.mk.injEq] at h
    obtain ⟨hg, rfl⟩ := h
    exact (put_fact a t l i s hg).args (fun _ _ _ => fun _ h => RVs_two (fun _ h => RV_agg_two (fun _ h => RVs_two (fun _ h => RV_li h_a h) (fun _ h => RVs_two (fun _ h => RV_ls h_t h) (fun _ h => RVs_two (fun _ h => RV_sl (s := (.pair (.pair (.int .i64) (.sl (.int .u64))) .str)) h_l h) (fun _ h => h) h) h) h) h) (fun _ h => h) h)
  · cases h
noncomputable def T_put : Tbl := Tbl.cons 111 put_ent T_refAll
theorem T_put_ok : CallOk Tryd.prog gTab T_put := cons_ok T_refAll_ok put_ok
/-! downpour/downpourref15.Peel -/
noncomputable def refPeelF_s3 {R : Type} (w19 : List ((Int × List Int) × ByteArray)) (w20 : List Int) (w21 : List ByteArray) (c0 : (List ((Int × List Int) × ByteArray)) → List Int → List ByteArray → Option R) (c1 : (List ((Int × List Int) × ByteArray)) → List Int → List ByteArray → Option R) : Option R :=
  grd (rtE w19 && decide (w19.length ≤ 1000)) <|
  br (decide (((stepS w19) : Int) < 0))
    (c0 w19 w20 w21)
    (bnd (ix w19 (stepS w19)) fun e31 =>
    grd (okW e31.1.2 && decide (e31.1.1 ≤ 64 * (e31.1.2.length : Int)) && decide (e31.1.2.length ≤ 1000)) <|
    bnd (ix (plcR e31.1.1 e31.1.2) 0) fun e32 =>
    bnd (ix w19 (stepS w19)) fun e33 =>
    grd (decide (List.length (α := Int) w20 = List.length (α := ByteArray) w21) && decide (List.length (α := Int) w20 ≤ 1000)) <|
    grd (allOk w19 e32 e33.2) <|
    c1 (w19.map fun e => outE e e32 e33.2) (putA w20 e32) (putT w20 w21 e32 e33.2))
theorem refPeelF_s3_eq (fuel : Nat) (k : Nat) (K : Ex → St → Option Out) (w19 : List ((Int × List Int) × ByteArray)) (w20 : List Int) (w21 : List ByteArray) : lpN (sub (bodyOf Tryd.prog 52) [1, 1, 0, 0, 0]) (fnX Tryd.prog mode10 T_put fuel 60 0) 1152921470247108877 [0, 2, 3] (k + 1) ⟨[(0, .lt (.pair (.pair (.int .i64) (.sl (.int .u64))) .str) w19), (2, .ptr 0 3 0 0), (3, .ptr 1 3 0 0)], [(0, some ⟨79, .agg [.s (.slice none 0 0), .s (.slice none 0 0), .s (.slice none 0 0)], true⟩), (1, some ⟨79, .agg [.li .i64 w20, .ls w21, .s (.slice none 0 0)], true⟩)], 2, none⟩ K = refPeelF_s3 w19 w20 w21 (fun (a28 : List ((Int × List Int) × ByteArray)) (a29 : List Int) (a30 : List ByteArray) => K (.exit 0) ⟨[(0, .lt (.pair (.pair (.int .i64) (.sl (.int .u64))) .str) a28), (2, .ptr 0 3 0 0), (3, .ptr 1 3 0 0)], [(0, some ⟨79, .agg [.s (.slice none 0 0), .s (.slice none 0 0), .s (.slice none 0 0)], true⟩), (1, some ⟨79, .agg [.li .i64 a29, .ls a30, .s (.slice none 0 0)], true⟩)], 2, none⟩) (fun (a34 : List ((Int × List Int) × ByteArray)) (a35 : List Int) (a36 : List ByteArray) => lpN (sub (bodyOf Tryd.prog 52) [1, 1, 0, 0, 0]) (fnX Tryd.prog mode10 T_put fuel 60 0) 1152921470247108877 [0, 2, 3] k ⟨[(0, .lt (.pair (.pair (.int .i64) (.sl (.int .u64))) .str) a34), (2, .ptr 0 3 0 0), (3, .ptr 1 3 0 0)], [(0, some ⟨79, .agg [.s (.slice none 0 0), .s (.slice none 0 0), .s (.slice none 0 0)], true⟩), (1, some ⟨79, .agg [.li .i64 a35, .ls a36, .s (.slice none 0 0)], true⟩)], 2, none⟩ K) := by kernel_rfl
noncomputable def refPeelF_l2 {R : Type} (fuel : Nat)  (k0 : (List ((Int × List Int) × ByteArray)) → List Int → List ByteArray → Option R) : Nat → (List ((Int × List Int) × ByteArray)) → List Int → List ByteArray → Option R
  | 0, _, _, _ => none
  | k + 1, w19, w20, w21 =>
    (refPeelF_s3 w19 w20 w21 (fun (a28 : List ((Int × List Int) × ByteArray)) (a29 : List Int) (a30 : List ByteArray) => k0 a28 a29 a30) (fun (a34 : List ((Int × List Int) × ByteArray)) (a35 : List Int) (a36 : List ByteArray) => ( refPeelF_l2 fuel k0 k a34 a35 a36 )))
theorem refPeelF_l2_eq (fuel : Nat)  (K : Ex → St → Option Out) : ∀ (k : Nat) (w19 : List ((Int × List Int) × ByteArray)) (w20 : List Int) (w21 : List ByteArray), lpN (sub (bodyOf Tryd.prog 52) [1, 1, 0, 0, 0]) (fnX Tryd.prog mode10 T_put fuel 60 0) 1152921470247108877 [0, 2, 3] k ⟨[(0, .lt (.pair (.pair (.int .i64) (.sl (.int .u64))) .str) w19), (2, .ptr 0 3 0 0), (3, .ptr 1 3 0 0)], [(0, some ⟨79, .agg [.s (.slice none 0 0), .s (.slice none 0 0), .s (.slice none 0 0)], true⟩), (1, some ⟨79, .agg [.li .i64 w20, .ls w21, .s (.slice none 0 0)], true⟩)], 2, none⟩ K = refPeelF_l2 fuel  (fun (y25 : List ((Int × List Int) × ByteArray)) (y26 : List Int) (y27 : List ByteArray) => K (.exit 0) ⟨[(0, .lt (.pair (.pair (.int .i64) (.sl (.int .u64))) .str) y25), (2, .ptr 0 3 0 0), (3, .ptr 1 3 0 0)], [(0, some ⟨79, .agg [.s (.slice none 0 0), .s (.slice none 0 0), .s (.slice none 0 0)], true⟩), (1, some ⟨79, .agg [.li .i64 y26, .ls y27, .s (.slice none 0 0)], true⟩)], 2, none⟩) k w19 w20 w21
  | 0, _, _, _ => rfl
  | k + 1, w19, w20, w21 => by
    unfold refPeelF_l2
    exact (refPeelF_s3_eq fuel k K w19 w20 w21).trans (congr (congr (Eq.refl (refPeelF_s3 (R := Out) w19 w20 w21)) (rfl)) (funext fun a34 => funext fun a35 => funext fun a36 => refPeelF_l2_eq fuel  K k a34 a35 a36))
noncomputable def refPeelF_s2 {R : Type} (r : List ((Int × List Int) × ByteArray)) (c0 : Option R) (c1 : (List ((Int × List Int) × ByteArray)) → List Int → List ByteArray → Option R) : Option R :=
  grd (rtE r && decide (r.length ≤ 1000)) <|
  br (decide (((stepS r) : Int) < 0))
    (c0)
    (bnd (ix r (stepS r)) fun e16 =>
    grd (okW e16.1.2 && decide (e16.1.1 ≤ 64 * (e16.1.2.length : Int)) && decide (e16.1.2.length ≤ 1000)) <|
    bnd (ix (plcR e16.1.1 e16.1.2) 0) fun e17 =>
    bnd (ix r (stepS r)) fun e18 =>
    grd (decide (List.length (α := Int) ([]) = List.length (α := ByteArray) ([])) && decide (List.length (α := Int) ([]) ≤ 1000)) <|
    grd (allOk r e17 e18.2) <|
    c1 (r.map fun e => outE e e17 e18.2) (putA ([]) e17) (putT ([]) ([]) e17 e18.2))
theorem refPeelF_s2_eq (fuel : Nat) (k : Nat) (K : Ex → St → Option Out) (r : List ((Int × List Int) × ByteArray)) : lpN (sub (bodyOf Tryd.prog 52) [1, 1, 0, 0, 0]) (fnX Tryd.prog mode10 T_put fuel 60 0) 1152921470247108877 [0, 2, 3] (k + 1) ⟨[(0, .lt (.pair (.pair (.int .i64) (.sl (.int .u64))) .str) r), (2, .ptr 0 3 0 0), (3, .ptr 1 3 0 0)], [(0, some ⟨79, .agg [.s (.slice none 0 0), .s (.slice none 0 0), .s (.slice none 0 0)], true⟩), (1, some ⟨79, .agg [.s (.slice none 0 0), .s (.slice none 0 0), .s (.slice none 0 0)], true⟩)], 2, none⟩ K = refPeelF_s2 r (K (.exit 0) ⟨[(0, .lt (.pair (.pair (.int .i64) (.sl (.int .u64))) .str) r), (2, .ptr 0 3 0 0), (3, .ptr 1 3 0 0)], [(0, some ⟨79, .agg [.s (.slice none 0 0), .s (.slice none 0 0), .s (.slice none 0 0)], true⟩), (1, some ⟨79, .agg [.s (.slice none 0 0), .s (.slice none 0 0), .s (.slice none 0 0)], true⟩)], 2, none⟩) (fun (a37 : List ((Int × List Int) × ByteArray)) (a38 : List Int) (a39 : List ByteArray) => lpN (sub (bodyOf Tryd.prog 52) [1, 1, 0, 0, 0]) (fnX Tryd.prog mode10 T_put fuel 60 0) 1152921470247108877 [0, 2, 3] k ⟨[(0, .lt (.pair (.pair (.int .i64) (.sl (.int .u64))) .str) a37), (2, .ptr 0 3 0 0), (3, .ptr 1 3 0 0)], [(0, some ⟨79, .agg [.s (.slice none 0 0), .s (.slice none 0 0), .s (.slice none 0 0)], true⟩), (1, some ⟨79, .agg [.li .i64 a38, .ls a39, .s (.slice none 0 0)], true⟩)], 2, none⟩ K) := by kernel_rfl
noncomputable def refPeelF_l1 {R : Type} (fuel : Nat) (r : List ((Int × List Int) × ByteArray)) (k0 : Option R) (k1 : (List ((Int × List Int) × ByteArray)) → List Int → List ByteArray → Option R) : Nat → Option R
  | 0 => none
  | k + 1 =>
    (refPeelF_s2 r (k0) (fun (a37 : List ((Int × List Int) × ByteArray)) (a38 : List Int) (a39 : List ByteArray) => (refPeelF_l2 fuel (fun (x40 : List ((Int × List Int) × ByteArray)) (x41 : List Int) (x42 : List ByteArray) => k1 x40 x41 x42) k a37 a38 a39)))
theorem refPeelF_l1_eq (fuel : Nat) (r : List ((Int × List Int) × ByteArray)) (K : Ex → St → Option Out) : ∀ (k : Nat) , lpN (sub (bodyOf Tryd.prog 52) [1, 1, 0, 0, 0]) (fnX Tryd.prog mode10 T_put fuel 60 0) 1152921470247108877 [0, 2, 3] k ⟨[(0, .lt (.pair (.pair (.int .i64) (.sl (.int .u64))) .str) r), (2, .ptr 0 3 0 0), (3, .ptr 1 3 0 0)], [(0, some ⟨79, .agg [.s (.slice none 0 0), .s (.slice none 0 0), .s (.slice none 0 0)], true⟩), (1, some ⟨79, .agg [.s (.slice none 0 0), .s (.slice none 0 0), .s (.slice none 0 0)], true⟩)], 2, none⟩ K = refPeelF_l1 fuel r (K (.exit 0) ⟨[(0, .lt (.pair (.pair (.int .i64) (.sl (.int .u64))) .str) r), (2, .ptr 0 3 0 0), (3, .ptr 1 3 0 0)], [(0, some ⟨79, .agg [.s (.slice none 0 0), .s (.slice none 0 0), .s (.slice none 0 0)], true⟩), (1, some ⟨79, .agg [.s (.slice none 0 0), .s (.slice none 0 0), .s (.slice none 0 0)], true⟩)], 2, none⟩) (fun (y13 : List ((Int × List Int) × ByteArray)) (y14 : List Int) (y15 : List ByteArray) => K (.exit 0) ⟨[(0, .lt (.pair (.pair (.int .i64) (.sl (.int .u64))) .str) y13), (2, .ptr 0 3 0 0), (3, .ptr 1 3 0 0)], [(0, some ⟨79, .agg [.s (.slice none 0 0), .s (.slice none 0 0), .s (.slice none 0 0)], true⟩), (1, some ⟨79, .agg [.li .i64 y14, .ls y15, .s (.slice none 0 0)], true⟩)], 2, none⟩) k 
  | 0 => rfl
  | k + 1 => by
    unfold refPeelF_l1
    exact (refPeelF_s2_eq fuel k K r).trans (congr (congr (Eq.refl (refPeelF_s2 (R := Out) r)) (rfl)) (funext fun a37 => funext fun a38 => funext fun a39 => refPeelF_l2_eq fuel  K k a37 a38 a39))
noncomputable def refPeelF_s6 {R : Type} (w88 : Int) (w61 : Int) (r : List ((Int × List Int) × ByteArray)) (w90 : List ((Int × List Int) × ByteArray)) (w89 : Nat) (c0 : Int → Nat → (List ((Int × List Int) × ByteArray)) → Option R) (c1 : Int → Nat → (List ((Int × List Int) × ByteArray)) → Option R) (c2 : Int → Nat → (List ((Int × List Int) × ByteArray)) → Option R) (c3 : Nat → (List ((Int × List Int) × ByteArray)) → Option R) : Option R :=
  br (decide (w88 < w61))
    (bnd (ix r w88) fun e94 =>
    grd (okW e94.1.2 && decide (e94.1.1 ≤ 64 * (e94.1.2.length : Int)) && decide (e94.1.2.length ≤ 1000)) <|
    br (decide (((((plcR e94.1.1 e94.1.2).length : Nat) : Int) : Int) > 0))
      (grd (Nat.beq w90.length w89) <|
      grd (okN (w89 + 1) 48) <|
      c0 (IntKind.i64.wrap (w88 + 1)) ((w90 ++ [e94]).length) (w90 ++ [e94]))
      (grd (decide (e94.2.size ≤ 1000000)) <|
      br (!(nought e94.2))
        (grd (Nat.beq w90.length w89) <|
        grd (okN (w89 + 1) 48) <|
        c1 (IntKind.i64.wrap (w88 + 1)) ((w90 ++ [e94]).length) (w90 ++ [e94]))
        (c2 (IntKind.i64.wrap (w88 + 1)) w89 w90)))
    (c3 w89 w90)
theorem refPeelF_s6_eq (fuel : Nat) (k : Nat) (K : Ex → St → Option Out) (w88 : Int) (w61 : Int) (r : List ((Int × List Int) × ByteArray)) (w90 : List ((Int × List Int) × ByteArray)) (w89 : Nat) : lpN (sub (bodyOf Tryd.prog 52) [1, 1, 1, 0, 1, 0, 0]) (fnX Tryd.prog mode10 T_put fuel 60 0) 576460752303423500 [2, 3, 35, 36, 37] (k + 1) ⟨[(2, .ptr 0 3 0 0), (3, .ptr 1 3 0 0), (35, .lt (.pair (.pair (.int .i64) (.sl (.int .u64))) .str) r), (36, .s (.int .i64 w61)), (37, .s (.int .i64 w88))], [(0, some ⟨79, .agg [.s (.slice none 0 0), .s (.slice none 0 0), .s (.slice none 0 0)], true⟩), (1, some ⟨79, .agg [.s (.slice none 0 0), .s (.slice none 0 0), .sl 2 3 0 w89], true⟩), (2, some ⟨88, .lt (.pair (.pair (.int .i64) (.sl (.int .u64))) .str) w90, true⟩)], 3, none⟩ K = refPeelF_s6 w88 w61 r w90 w89 (fun (a95 : Int) (a96 : Nat) (a97 : List ((Int × List Int) × ByteArray)) => lpN (sub (bodyOf Tryd.prog 52) [1, 1, 1, 0, 1, 0, 0]) (fnX Tryd.prog mode10 T_put fuel 60 0) 576460752303423500 [2, 3, 35, 36, 37] k ⟨[(2, .ptr 0 3 0 0), (3, .ptr 1 3 0 0), (35, .lt (.pair (.pair (.int .i64) (.sl (.int .u64))) .str) r), (36, .s (.int .i64 w61)), (37, .s (.int .i64 a95))], [(0, some ⟨79, .agg [.s (.slice none 0 0), .s (.slice none 0 0), .s (.slice none 0 0)], true⟩), (1, some ⟨79, .agg [.s (.slice none 0 0), .s (.slice none 0 0), .sl 2 3 0 a96], true⟩), (2, some ⟨88, .lt (.pair (.pair (.int .i64) (.sl (.int .u64))) .str) a97, true⟩)], 3, none⟩ K) (fun (a98 : Int) (a99 : Nat) (a100 : List ((Int × List Int) × ByteArray)) => lpN (sub (bodyOf Tryd.prog 52) [1, 1, 1, 0, 1, 0, 0]) (fnX Tryd.prog mode10 T_put fuel 60 0) 576460752303423500 [2, 3, 35, 36, 37] k ⟨[(2, .ptr 0 3 0 0), (3, .ptr 1 3 0 0), (35, .lt (.pair (.pair (.int .i64) (.sl (.int .u64))) .str) r), (36, .s (.int .i64 w61)), (37, .s (.int .i64 a98))], [(0, some ⟨79, .agg [.s (.slice none 0 0), .s (.slice none 0 0), .s (.slice none 0 0)], true⟩), (1, some ⟨79, .agg [.s (.slice none 0 0), .s (.slice none 0 0), .sl 2 3 0 a99], true⟩), (2, some ⟨88, .lt (.pair (.pair (.int .i64) (.sl (.int .u64))) .str) a100, true⟩)], 3, none⟩ K) (fun (a101 : Int) (a102 : Nat) (a103 : List ((Int × List Int) × ByteArray)) => lpN (sub (bodyOf Tryd.prog 52) [1, 1, 1, 0, 1, 0, 0]) (fnX Tryd.prog mode10 T_put fuel 60 0) 576460752303423500 [2, 3, 35, 36, 37] k ⟨[(2, .ptr 0 3 0 0), (3, .ptr 1 3 0 0), (35, .lt (.pair (.pair (.int .i64) (.sl (.int .u64))) .str) r), (36, .s (.int .i64 w61)), (37, .s (.int .i64 a101))], [(0, some ⟨79, .agg [.s (.slice none 0 0), .s (.slice none 0 0), .s (.slice none 0 0)], true⟩), (1, some ⟨79, .agg [.s (.slice none 0 0), .s (.slice none 0 0), .sl 2 3 0 a102], true⟩), (2, some ⟨88, .lt (.pair (.pair (.int .i64) (.sl (.int .u64))) .str) a103, true⟩)], 3, none⟩ K) (fun (a104 : Nat) (a105 : List ((Int × List Int) × ByteArray)) => K (.exit 2) ⟨[(2, .ptr 0 3 0 0), (3, .ptr 1 3 0 0)], [(0, some ⟨79, .agg [.s (.slice none 0 0), .s (.slice none 0 0), .s (.slice none 0 0)], true⟩), (1, some ⟨79, .agg [.s (.slice none 0 0), .s (.slice none 0 0), .sl 2 3 0 a104], true⟩), (2, some ⟨88, .lt (.pair (.pair (.int .i64) (.sl (.int .u64))) .str) a105, true⟩)], 3, none⟩) := by kernel_rfl
noncomputable def refPeelF_l4 {R : Type} (fuel : Nat) (r : List ((Int × List Int) × ByteArray)) (w61 : Int) (k0 : Nat → (List ((Int × List Int) × ByteArray)) → Option R) : Nat → Int → Nat → (List ((Int × List Int) × ByteArray)) → Option R
  | 0, _, _, _ => none
  | k + 1, w88, w89, w90 =>
    (refPeelF_s6 w88 w61 r w90 w89 (fun (a95 : Int) (a96 : Nat) (a97 : List ((Int × List Int) × ByteArray)) => ( refPeelF_l4 fuel r w61 k0 k a95 a96 a97 )) (fun (a98 : Int) (a99 : Nat) (a100 : List ((Int × List Int) × ByteArray)) => ( refPeelF_l4 fuel r w61 k0 k a98 a99 a100 )) (fun (a101 : Int) (a102 : Nat) (a103 : List ((Int × List Int) × ByteArray)) => ( refPeelF_l4 fuel r w61 k0 k a101 a102 a103 )) (fun (a104 : Nat) (a105 : List ((Int × List Int) × ByteArray)) => k0 a104 a105))
theorem refPeelF_l4_eq (fuel : Nat) (r : List ((Int × List Int) × ByteArray)) (w61 : Int) (K : Ex → St → Option Out) : ∀ (k : Nat) (w88 : Int) (w89 : Nat) (w90 : List ((Int × List Int) × ByteArray)), lpN (sub (bodyOf Tryd.prog 52) [1, 1, 1, 0, 1, 0, 0]) (fnX Tryd.prog mode10 T_put fuel 60 0) 576460752303423500 [2, 3, 35, 36, 37] k ⟨[(2, .ptr 0 3 0 0), (3, .ptr 1 3 0 0), (35, .lt (.pair (.pair (.int .i64) (.sl (.int .u64))) .str) r), (36, .s (.int .i64 w61)), (37, .s (.int .i64 w88))], [(0, some ⟨79, .agg [.s (.slice none 0 0), .s (.slice none 0 0), .s (.slice none 0 0)], true⟩), (1, some ⟨79, .agg [.s (.slice none 0 0), .s (.slice none 0 0), .sl 2 3 0 w89], true⟩), (2, some ⟨88, .lt (.pair (.pair (.int .i64) (.sl (.int .u64))) .str) w90, true⟩)], 3, none⟩ K = refPeelF_l4 fuel r w61 (fun (y92 : Nat) (y93 : List ((Int × List Int) × ByteArray)) => K (.exit 2) ⟨[(2, .ptr 0 3 0 0), (3, .ptr 1 3 0 0)], [(0, some ⟨79, .agg [.s (.slice none 0 0), .s (.slice none 0 0), .s (.slice none 0 0)], true⟩), (1, some ⟨79, .agg [.s (.slice none 0 0), .s (.slice none 0 0), .sl 2 3 0 y92], true⟩), (2, some ⟨88, .lt (.pair (.pair (.int .i64) (.sl (.int .u64))) .str) y93, true⟩)], 3, none⟩) k w88 w89 w90
  | 0, _, _, _ => rfl
  | k + 1, w88, w89, w90 => by
    unfold refPeelF_l4
    exact (refPeelF_s6_eq fuel k K w88 w61 r w90 w89).trans (congr (congr (congr (congr (Eq.refl (refPeelF_s6 (R := Out) w88 w61 r w90 w89)) (funext fun a95 => funext fun a96 => funext fun a97 => refPeelF_l4_eq fuel r w61 K k a95 a96 a97)) (funext fun a98 => funext fun a99 => funext fun a100 => refPeelF_l4_eq fuel r w61 K k a98 a99 a100)) (funext fun a101 => funext fun a102 => funext fun a103 => refPeelF_l4_eq fuel r w61 K k a101 a102 a103)) (rfl))
noncomputable def refPeelF_s5 {R : Type} (w62 : Int) (w61 : Int) (r : List ((Int × List Int) × ByteArray)) (c0 : Int → Nat → (List ((Int × List Int) × ByteArray)) → Option R) (c1 : Int → Nat → (List ((Int × List Int) × ByteArray)) → Option R) (c2 : Int → Int → Option R) (c3 : Option R) : Option R :=
  br (decide (w62 < w61))
    (bnd (ix r w62) fun e84 =>
    grd (okW e84.1.2 && decide (e84.1.1 ≤ 64 * (e84.1.2.length : Int)) && decide (e84.1.2.length ≤ 1000)) <|
    br (decide (((((plcR e84.1.1 e84.1.2).length : Nat) : Int) : Int) > 0))
      (c0 (IntKind.i64.wrap (w62 + 1)) 1 ([e84]))
      (grd (decide (e84.2.size ≤ 1000000)) <|
      br (!(nought e84.2))
        (c1 (IntKind.i64.wrap (w62 + 1)) 1 ([e84]))
        (c2 w61 (IntKind.i64.wrap (w62 + 1)))))
    (c3)
theorem refPeelF_s5_eq (fuel : Nat) (k : Nat) (K : Ex → St → Option Out) (w62 : Int) (w61 : Int) (r : List ((Int × List Int) × ByteArray)) : lpN (sub (bodyOf Tryd.prog 52) [1, 1, 1, 0, 1, 0, 0]) (fnX Tryd.prog mode10 T_put fuel 60 0) 576460752303423500 [2, 3, 35, 36, 37] (k + 1) ⟨[(2, .ptr 0 3 0 0), (3, .ptr 1 3 0 0), (35, .lt (.pair (.pair (.int .i64) (.sl (.int .u64))) .str) r), (36, .s (.int .i64 w61)), (37, .s (.int .i64 w62))], [(0, some ⟨79, .agg [.s (.slice none 0 0), .s (.slice none 0 0), .s (.slice none 0 0)], true⟩), (1, some ⟨79, .agg [.s (.slice none 0 0), .s (.slice none 0 0), .s (.slice none 0 0)], true⟩)], 2, none⟩ K = refPeelF_s5 w62 w61 r (fun (a106 : Int) (a107 : Nat) (a108 : List ((Int × List Int) × ByteArray)) => lpN (sub (bodyOf Tryd.prog 52) [1, 1, 1, 0, 1, 0, 0]) (fnX Tryd.prog mode10 T_put fuel 60 0) 576460752303423500 [2, 3, 35, 36, 37] k ⟨[(2, .ptr 0 3 0 0), (3, .ptr 1 3 0 0), (35, .lt (.pair (.pair (.int .i64) (.sl (.int .u64))) .str) r), (36, .s (.int .i64 w61)), (37, .s (.int .i64 a106))], [(0, some ⟨79, .agg [.s (.slice none 0 0), .s (.slice none 0 0), .s (.slice none 0 0)], true⟩), (1, some ⟨79, .agg [.s (.slice none 0 0), .s (.slice none 0 0), .sl 2 3 0 a107], true⟩), (2, some ⟨88, .lt (.pair (.pair (.int .i64) (.sl (.int .u64))) .str) a108, true⟩)], 3, none⟩ K) (fun (a111 : Int) (a112 : Nat) (a113 : List ((Int × List Int) × ByteArray)) => lpN (sub (bodyOf Tryd.prog 52) [1, 1, 1, 0, 1, 0, 0]) (fnX Tryd.prog mode10 T_put fuel 60 0) 576460752303423500 [2, 3, 35, 36, 37] k ⟨[(2, .ptr 0 3 0 0), (3, .ptr 1 3 0 0), (35, .lt (.pair (.pair (.int .i64) (.sl (.int .u64))) .str) r), (36, .s (.int .i64 w61)), (37, .s (.int .i64 a111))], [(0, some ⟨79, .agg [.s (.slice none 0 0), .s (.slice none 0 0), .s (.slice none 0 0)], true⟩), (1, some ⟨79, .agg [.s (.slice none 0 0), .s (.slice none 0 0), .sl 2 3 0 a112], true⟩), (2, some ⟨88, .lt (.pair (.pair (.int .i64) (.sl (.int .u64))) .str) a113, true⟩)], 3, none⟩ K) (fun (a116 : Int) (a117 : Int) => lpN (sub (bodyOf Tryd.prog 52) [1, 1, 1, 0, 1, 0, 0]) (fnX Tryd.prog mode10 T_put fuel 60 0) 576460752303423500 [2, 3, 35, 36, 37] k ⟨[(2, .ptr 0 3 0 0), (3, .ptr 1 3 0 0), (35, .lt (.pair (.pair (.int .i64) (.sl (.int .u64))) .str) r), (36, .s (.int .i64 a116)), (37, .s (.int .i64 a117))], [(0, some ⟨79, .agg [.s (.slice none 0 0), .s (.slice none 0 0), .s (.slice none 0 0)], true⟩), (1, some ⟨79, .agg [.s (.slice none 0 0), .s (.slice none 0 0), .s (.slice none 0 0)], true⟩)], 2, none⟩ K) (K (.exit 2) ⟨[(2, .ptr 0 3 0 0), (3, .ptr 1 3 0 0)], [(0, some ⟨79, .agg [.s (.slice none 0 0), .s (.slice none 0 0), .s (.slice none 0 0)], true⟩), (1, some ⟨79, .agg [.s (.slice none 0 0), .s (.slice none 0 0), .s (.slice none 0 0)], true⟩)], 2, none⟩) := by kernel_rfl
noncomputable def refPeelF_l3 {R : Type} (fuel : Nat) (r : List ((Int × List Int) × ByteArray)) (k0 : Nat → (List ((Int × List Int) × ByteArray)) → Option R) (k1 : Option R) : Nat → Int → Int → Option R
  | 0, _, _ => none
  | k + 1, w61, w62 =>
    (refPeelF_s5 w62 w61 r (fun (a106 : Int) (a107 : Nat) (a108 : List ((Int × List Int) × ByteArray)) => (refPeelF_l4 fuel r w61 (fun (x109 : Nat) (x110 : List ((Int × List Int) × ByteArray)) => k0 x109 x110) k a106 a107 a108)) (fun (a111 : Int) (a112 : Nat) (a113 : List ((Int × List Int) × ByteArray)) => (refPeelF_l4 fuel r w61 (fun (x114 : Nat) (x115 : List ((Int × List Int) × ByteArray)) => k0 x114 x115) k a111 a112 a113)) (fun (a116 : Int) (a117 : Int) => ( refPeelF_l3 fuel r k0 k1 k a116 a117 )) (k1))
theorem refPeelF_l3_eq (fuel : Nat) (r : List ((Int × List Int) × ByteArray)) (K : Ex → St → Option Out) : ∀ (k : Nat) (w61 : Int) (w62 : Int), lpN (sub (bodyOf Tryd.prog 52) [1, 1, 1, 0, 1, 0, 0]) (fnX Tryd.prog mode10 T_put fuel 60 0) 576460752303423500 [2, 3, 35, 36, 37] k ⟨[(2, .ptr 0 3 0 0), (3, .ptr 1 3 0 0), (35, .lt (.pair (.pair (.int .i64) (.sl (.int .u64))) .str) r), (36, .s (.int .i64 w61)), (37, .s (.int .i64 w62))], [(0, some ⟨79, .agg [.s (.slice none 0 0), .s (.slice none 0 0), .s (.slice none 0 0)], true⟩), (1, some ⟨79, .agg [.s (.slice none 0 0), .s (.slice none 0 0), .s (.slice none 0 0)], true⟩)], 2, none⟩ K = refPeelF_l3 fuel r (fun (y82 : Nat) (y83 : List ((Int × List Int) × ByteArray)) => K (.exit 2) ⟨[(2, .ptr 0 3 0 0), (3, .ptr 1 3 0 0)], [(0, some ⟨79, .agg [.s (.slice none 0 0), .s (.slice none 0 0), .s (.slice none 0 0)], true⟩), (1, some ⟨79, .agg [.s (.slice none 0 0), .s (.slice none 0 0), .sl 2 3 0 y82], true⟩), (2, some ⟨88, .lt (.pair (.pair (.int .i64) (.sl (.int .u64))) .str) y83, true⟩)], 3, none⟩) (K (.exit 2) ⟨[(2, .ptr 0 3 0 0), (3, .ptr 1 3 0 0)], [(0, some ⟨79, .agg [.s (.slice none 0 0), .s (.slice none 0 0), .s (.slice none 0 0)], true⟩), (1, some ⟨79, .agg [.s (.slice none 0 0), .s (.slice none 0 0), .s (.slice none 0 0)], true⟩)], 2, none⟩) k w61 w62
  | 0, _, _ => rfl
  | k + 1, w61, w62 => by
    unfold refPeelF_l3
    exact (refPeelF_s5_eq fuel k K w62 w61 r).trans (congr (congr (congr (congr (Eq.refl (refPeelF_s5 (R := Out) w62 w61 r)) (funext fun a106 => funext fun a107 => funext fun a108 => refPeelF_l4_eq fuel r w61 K k a106 a107 a108)) (funext fun a111 => funext fun a112 => funext fun a113 => refPeelF_l4_eq fuel r w61 K k a111 a112 a113)) (funext fun a116 => funext fun a117 => refPeelF_l3_eq fuel r K k a116 a117)) (rfl))
noncomputable def refPeelF_s7 {R : Type} (x121 : List ((Int × List Int) × ByteArray)) (x120 : Nat) (c0 : (List ((Int × List Int) × ByteArray)) → Option R) : Option R :=
  c0 ((x121.drop 0).take x120)
theorem refPeelF_s7_eq (fuel : Nat)  (x121 : List ((Int × List Int) × ByteArray)) (x120 : Nat) : (kont (fnX Tryd.prog mode10 T_put fuel 60 0) (bodyOf Tryd.prog 52) [1, 1, 1, 0, 1, 0] 4 (endK Tryd.prog 0 0 52)) (.exit 2) ⟨[(2, .ptr 0 3 0 0), (3, .ptr 1 3 0 0)], [(0, some ⟨79, .agg [.s (.slice none 0 0), .s (.slice none 0 0), .s (.slice none 0 0)], true⟩), (1, some ⟨79, .agg [.s (.slice none 0 0), .s (.slice none 0 0), .sl 2 3 0 x120], true⟩), (2, some ⟨88, .lt (.pair (.pair (.int .i64) (.sl (.int .u64))) .str) x121, true⟩)], 3, none⟩ = refPeelF_s7 x121 x120 (fun (a122 : List ((Int × List Int) × ByteArray)) => some (.agg [.s (.slice none 0 0), .s (.slice none 0 0), .lt (.pair (.pair (.int .i64) (.sl (.int .u64))) .str) a122], [])) := by kernel_rfl
noncomputable def refPeelF_s8 {R : Type}  (c0 : Option R) : Option R :=
  c0
theorem refPeelF_s8_eq (fuel : Nat)   : (kont (fnX Tryd.prog mode10 T_put fuel 60 0) (bodyOf Tryd.prog 52) [1, 1, 1, 0, 1, 0] 4 (endK Tryd.prog 0 0 52)) (.exit 2) ⟨[(2, .ptr 0 3 0 0), (3, .ptr 1 3 0 0)], [(0, some ⟨79, .agg [.s (.slice none 0 0), .s (.slice none 0 0), .s (.slice none 0 0)], true⟩), (1, some ⟨79, .agg [.s (.slice none 0 0), .s (.slice none 0 0), .s (.slice none 0 0)], true⟩)], 2, none⟩ = refPeelF_s8  (some (.agg [.s (.slice none 0 0), .s (.slice none 0 0), .s (.slice none 0 0)], [])) := by kernel_rfl
noncomputable def refPeelF_s4 {R : Type} (r : List ((Int × List Int) × ByteArray)) (c0 : Int → Int → Option R) : Option R :=
  c0 ((r.length : Nat) : Int) 0
theorem refPeelF_s4_eq (fuel : Nat)  (r : List ((Int × List Int) × ByteArray)) : (kont (fnX Tryd.prog mode10 T_put fuel 60 0) (bodyOf Tryd.prog 52) [1, 1, 0, 0] 4 (endK Tryd.prog 0 0 52)) (.exit 0) ⟨[(0, .lt (.pair (.pair (.int .i64) (.sl (.int .u64))) .str) r), (2, .ptr 0 3 0 0), (3, .ptr 1 3 0 0)], [(0, some ⟨79, .agg [.s (.slice none 0 0), .s (.slice none 0 0), .s (.slice none 0 0)], true⟩), (1, some ⟨79, .agg [.s (.slice none 0 0), .s (.slice none 0 0), .s (.slice none 0 0)], true⟩)], 2, none⟩ = refPeelF_s4 r (fun (a118 : Int) (a119 : Int) => lpN (sub (bodyOf Tryd.prog 52) [1, 1, 1, 0, 1, 0, 0]) (fnX Tryd.prog mode10 T_put fuel 60 0) 576460752303423500 [2, 3, 35, 36, 37] fuel ⟨[(2, .ptr 0 3 0 0), (3, .ptr 1 3 0 0), (35, .lt (.pair (.pair (.int .i64) (.sl (.int .u64))) .str) r), (36, .s (.int .i64 a118)), (37, .s (.int .i64 a119))], [(0, some ⟨79, .agg [.s (.slice none 0 0), .s (.slice none 0 0), .s (.slice none 0 0)], true⟩), (1, some ⟨79, .agg [.s (.slice none 0 0), .s (.slice none 0 0), .s (.slice none 0 0)], true⟩)], 2, none⟩ (kont (fnX Tryd.prog mode10 T_put fuel 60 0) (bodyOf Tryd.prog 52) [1, 1, 1, 0, 1, 0] 4 (endK Tryd.prog 0 0 52))) := by kernel_rfl
noncomputable def refPeelF_s11 {R : Type} (w171 : Int) (w144 : Int) (x123 : List ((Int × List Int) × ByteArray)) (w173 : List ((Int × List Int) × ByteArray)) (w172 : Nat) (x124 : List Int) (x125 : List ByteArray) (c0 : Int → Nat → (List ((Int × List Int) × ByteArray)) → Option R) (c1 : Int → Nat → (List ((Int × List Int) × ByteArray)) → Option R) (c2 : Int → Nat → (List ((Int × List Int) × ByteArray)) → Option R) (c3 : Nat → (List ((Int × List Int) × ByteArray)) → Option R) : Option R :=
  br (decide (w171 < w144))
    (bnd (ix x123 w171) fun e177 =>
    grd (okW e177.1.2 && decide (e177.1.1 ≤ 64 * (e177.1.2.length : Int)) && decide (e177.1.2.length ≤ 1000)) <|
    br (decide (((((plcR e177.1.1 e177.1.2).length : Nat) : Int) : Int) > 0))
      (grd (Nat.beq w173.length w172) <|
      grd (okN (w172 + 1) 48) <|
      c0 (IntKind.i64.wrap (w171 + 1)) ((w173 ++ [e177]).length) (w173 ++ [e177]))
      (grd (decide (e177.2.size ≤ 1000000)) <|
      br (!(nought e177.2))
        (grd (Nat.beq w173.length w172) <|
        grd (okN (w172 + 1) 48) <|
        c1 (IntKind.i64.wrap (w171 + 1)) ((w173 ++ [e177]).length) (w173 ++ [e177]))
        (c2 (IntKind.i64.wrap (w171 + 1)) w172 w173)))
    (c3 w172 w173)
theorem refPeelF_s11_eq (fuel : Nat) (k : Nat) (K : Ex → St → Option Out) (w171 : Int) (w144 : Int) (x123 : List ((Int × List Int) × ByteArray)) (w173 : List ((Int × List Int) × ByteArray)) (w172 : Nat) (x124 : List Int) (x125 : List ByteArray) : lpN (sub (bodyOf Tryd.prog 52) [1, 1, 1, 0, 1, 0, 0]) (fnX Tryd.prog mode10 T_put fuel 60 0) 576460752303423500 [2, 3, 35, 36, 37] (k + 1) ⟨[(2, .ptr 0 3 0 0), (3, .ptr 1 3 0 0), (35, .lt (.pair (.pair (.int .i64) (.sl (.int .u64))) .str) x123), (36, .s (.int .i64 w144)), (37, .s (.int .i64 w171))], [(0, some ⟨79, .agg [.s (.slice none 0 0), .s (.slice none 0 0), .s (.slice none 0 0)], true⟩), (1, some ⟨79, .agg [.li .i64 x124, .ls x125, .sl 2 3 0 w172], true⟩), (2, some ⟨88, .lt (.pair (.pair (.int .i64) (.sl (.int .u64))) .str) w173, true⟩)], 3, none⟩ K = refPeelF_s11 w171 w144 x123 w173 w172 x124 x125 (fun (a178 : Int) (a179 : Nat) (a180 : List ((Int × List Int) × ByteArray)) => lpN (sub (bodyOf Tryd.prog 52) [1, 1, 1, 0, 1, 0, 0]) (fnX Tryd.prog mode10 T_put fuel 60 0) 576460752303423500 [2, 3, 35, 36, 37] k ⟨[(2, .ptr 0 3 0 0), (3, .ptr 1 3 0 0), (35, .lt (.pair (.pair (.int .i64) (.sl (.int .u64))) .str) x123), (36, .s (.int .i64 w144)), (37, .s (.int .i64 a178))], [(0, some ⟨79, .agg [.s (.slice none 0 0), .s (.slice none 0 0), .s (.slice none 0 0)], true⟩), (1, some ⟨79, .agg [.li .i64 x124, .ls x125, .sl 2 3 0 a179], true⟩), (2, some ⟨88, .lt (.pair (.pair (.int .i64) (.sl (.int .u64))) .str) a180, true⟩)], 3, none⟩ K) (fun (a181 : Int) (a182 : Nat) (a183 : List ((Int × List Int) × ByteArray)) => lpN (sub (bodyOf Tryd.prog 52) [1, 1, 1, 0, 1, 0, 0]) (fnX Tryd.prog mode10 T_put fuel 60 0) 576460752303423500 [2, 3, 35, 36, 37] k ⟨[(2, .ptr 0 3 0 0), (3, .ptr 1 3 0 0), (35, .lt (.pair (.pair (.int .i64) (.sl (.int .u64))) .str) x123), (36, .s (.int .i64 w144)), (37, .s (.int .i64 a181))], [(0, some ⟨79, .agg [.s (.slice none 0 0), .s (.slice none 0 0), .s (.slice none 0 0)], true⟩), (1, some ⟨79, .agg [.li .i64 x124, .ls x125, .sl 2 3 0 a182], true⟩), (2, some ⟨88, .lt (.pair (.pair (.int .i64) (.sl (.int .u64))) .str) a183, true⟩)], 3, none⟩ K) (fun (a184 : Int) (a185 : Nat) (a186 : List ((Int × List Int) × ByteArray)) => lpN (sub (bodyOf Tryd.prog 52) [1, 1, 1, 0, 1, 0, 0]) (fnX Tryd.prog mode10 T_put fuel 60 0) 576460752303423500 [2, 3, 35, 36, 37] k ⟨[(2, .ptr 0 3 0 0), (3, .ptr 1 3 0 0), (35, .lt (.pair (.pair (.int .i64) (.sl (.int .u64))) .str) x123), (36, .s (.int .i64 w144)), (37, .s (.int .i64 a184))], [(0, some ⟨79, .agg [.s (.slice none 0 0), .s (.slice none 0 0), .s (.slice none 0 0)], true⟩), (1, some ⟨79, .agg [.li .i64 x124, .ls x125, .sl 2 3 0 a185], true⟩), (2, some ⟨88, .lt (.pair (.pair (.int .i64) (.sl (.int .u64))) .str) a186, true⟩)], 3, none⟩ K) (fun (a187 : Nat) (a188 : List ((Int × List Int) × ByteArray)) => K (.exit 2) ⟨[(2, .ptr 0 3 0 0), (3, .ptr 1 3 0 0)], [(0, some ⟨79, .agg [.s (.slice none 0 0), .s (.slice none 0 0), .s (.slice none 0 0)], true⟩), (1, some ⟨79, .agg [.li .i64 x124, .ls x125, .sl 2 3 0 a187], true⟩), (2, some ⟨88, .lt (.pair (.pair (.int .i64) (.sl (.int .u64))) .str) a188, true⟩)], 3, none⟩) := by kernel_rfl
noncomputable def refPeelF_l6 {R : Type} (fuel : Nat) (x123 : List ((Int × List Int) × ByteArray)) (w144 : Int) (x124 : List Int) (x125 : List ByteArray) (k0 : Nat → (List ((Int × List Int) × ByteArray)) → Option R) : Nat → Int → Nat → (List ((Int × List Int) × ByteArray)) → Option R
  | 0, _, _, _ => none
  | k + 1, w171, w172, w173 =>
    (refPeelF_s11 w171 w144 x123 w173 w172 x124 x125 (fun (a178 : Int) (a179 : Nat) (a180 : List ((Int × List Int) × ByteArray)) => ( refPeelF_l6 fuel x123 w144 x124 x125 k0 k a178 a179 a180 )) (fun (a181 : Int) (a182 : Nat) (a183 : List ((Int × List Int) × ByteArray)) => ( refPeelF_l6 fuel x123 w144 x124 x125 k0 k a181 a182 a183 )) (fun (a184 : Int) (a185 : Nat) (a186 : List ((Int × List Int) × ByteArray)) => ( refPeelF_l6 fuel x123 w144 x124 x125 k0 k a184 a185 a186 )) (fun (a187 : Nat) (a188 : List ((Int × List Int) × ByteArray)) => k0 a187 a188))
theorem refPeelF_l6_eq (fuel : Nat) (x123 : List ((Int × List Int) × ByteArray)) (w144 : Int) (x124 : List Int) (x125 : List ByteArray) (K : Ex → St → Option Out) : ∀ (k : Nat) (w171 : Int) (w172 : Nat) (w173 : List ((Int × List Int) × ByteArray)), lpN (sub (bodyOf Tryd.prog 52) [1, 1, 1, 0, 1, 0, 0]) (fnX Tryd.prog mode10 T_put fuel 60 0) 576460752303423500 [2, 3, 35, 36, 37] k ⟨[(2, .ptr 0 3 0 0), (3, .ptr 1 3 0 0), (35, .lt (.pair (.pair (.int .i64) (.sl (.int .u64))) .str) x123), (36, .s (.int .i64 w144)), (37, .s (.int .i64 w171))], [(0, some ⟨79, .agg [.s (.slice none 0 0), .s (.slice none 0 0), .s (.slice none 0 0)], true⟩), (1, some ⟨79, .agg [.li .i64 x124, .ls x125, .sl 2 3 0 w172], true⟩), (2, some ⟨88, .lt (.pair (.pair (.int .i64) (.sl (.int .u64))) .str) w173, true⟩)], 3, none⟩ K = refPeelF_l6 fuel x123 w144 x124 x125 (fun (y175 : Nat) (y176 : List ((Int × List Int) × ByteArray)) => K (.exit 2) ⟨[(2, .ptr 0 3 0 0), (3, .ptr 1 3 0 0)], [(0, some ⟨79, .agg [.s (.slice none 0 0), .s (.slice none 0 0), .s (.slice none 0 0)], true⟩), (1, some ⟨79, .agg [.li .i64 x124, .ls x125, .sl 2 3 0 y175], true⟩), (2, some ⟨88, .lt (.pair (.pair (.int .i64) (.sl (.int .u64))) .str) y176, true⟩)], 3, none⟩) k w171 w172 w173
  | 0, _, _, _ => rfl
  | k + 1, w171, w172, w173 => by
    unfold refPeelF_l6
    exact (refPeelF_s11_eq fuel k K w171 w144 x123 w173 w172 x124 x125).trans (congr (congr (congr (congr (Eq.refl (refPeelF_s11 (R := Out) w171 w144 x123 w173 w172 x124 x125)) (funext fun a178 => funext fun a179 => funext fun a180 => refPeelF_l6_eq fuel x123 w144 x124 x125 K k a178 a179 a180)) (funext fun a181 => funext fun a182 => funext fun a183 => refPeelF_l6_eq fuel x123 w144 x124 x125 K k a181 a182 a183)) (funext fun a184 => funext fun a185 => funext fun a186 => refPeelF_l6_eq fuel x123 w144 x124 x125 K k a184 a185 a186)) (rfl))
noncomputable def refPeelF_s10 {R : Type} (w145 : Int) (w144 : Int) (x123 : List ((Int × List Int) × ByteArray)) (x124 : List Int) (x125 : List ByteArray) (c0 : Int → Nat → (List ((Int × List Int) × ByteArray)) → Option R) (c1 : Int → Nat → (List ((Int × List Int) × ByteArray)) → Option R) (c2 : Int → Int → Option R) (c3 : Option R) : Option R :=
  br (decide (w145 < w144))
    (bnd (ix x123 w145) fun e167 =>
    grd (okW e167.1.2 && decide (e167.1.1 ≤ 64 * (e167.1.2.length : Int)) && decide (e167.1.2.length ≤ 1000)) <|
    br (decide (((((plcR e167.1.1 e167.1.2).length : Nat) : Int) : Int) > 0))
      (c0 (IntKind.i64.wrap (w145 + 1)) 1 ([e167]))
      (grd (decide (e167.2.size ≤ 1000000)) <|
      br (!(nought e167.2))
        (c1 (IntKind.i64.wrap (w145 + 1)) 1 ([e167]))
        (c2 w144 (IntKind.i64.wrap (w145 + 1)))))
    (c3)
theorem refPeelF_s10_eq (fuel : Nat) (k : Nat) (K : Ex → St → Option Out) (w145 : Int) (w144 : Int) (x123 : List ((Int × List Int) × ByteArray)) (x124 : List Int) (x125 : List ByteArray) : lpN (sub (bodyOf Tryd.prog 52) [1, 1, 1, 0, 1, 0, 0]) (fnX Tryd.prog mode10 T_put fuel 60 0) 576460752303423500 [2, 3, 35, 36, 37] (k + 1) ⟨[(2, .ptr 0 3 0 0), (3, .ptr 1 3 0 0), (35, .lt (.pair (.pair (.int .i64) (.sl (.int .u64))) .str) x123), (36, .s (.int .i64 w144)), (37, .s (.int .i64 w145))], [(0, some ⟨79, .agg [.s (.slice none 0 0), .s (.slice none 0 0), .s (.slice none 0 0)], true⟩), (1, some ⟨79, .agg [.li .i64 x124, .ls x125, .s (.slice none 0 0)], true⟩)], 2, none⟩ K = refPeelF_s10 w145 w144 x123 x124 x125 (fun (a189 : Int) (a190 : Nat) (a191 : List ((Int × List Int) × ByteArray)) => lpN (sub (bodyOf Tryd.prog 52) [1, 1, 1, 0, 1, 0, 0]) (fnX Tryd.prog mode10 T_put fuel 60 0) 576460752303423500 [2, 3, 35, 36, 37] k ⟨[(2, .ptr 0 3 0 0), (3, .ptr 1 3 0 0), (35, .lt (.pair (.pair (.int .i64) (.sl (.int .u64))) .str) x123), (36, .s (.int .i64 w144)), (37, .s (.int .i64 a189))], [(0, some ⟨79, .agg [.s (.slice none 0 0), .s (.slice none 0 0), .s (.slice none 0 0)], true⟩), (1, some ⟨79, .agg [.li .i64 x124, .ls x125, .sl 2 3 0 a190], true⟩), (2, some ⟨88, .lt (.pair (.pair (.int .i64) (.sl (.int .u64))) .str) a191, true⟩)], 3, none⟩ K) (fun (a194 : Int) (a195 : Nat) (a196 : List ((Int × List Int) × ByteArray)) => lpN (sub (bodyOf Tryd.prog 52) [1, 1, 1, 0, 1, 0, 0]) (fnX Tryd.prog mode10 T_put fuel 60 0) 576460752303423500 [2, 3, 35, 36, 37] k ⟨[(2, .ptr 0 3 0 0), (3, .ptr 1 3 0 0), (35, .lt (.pair (.pair (.int .i64) (.sl (.int .u64))) .str) x123), (36, .s (.int .i64 w144)), (37, .s (.int .i64 a194))], [(0, some ⟨79, .agg [.s (.slice none 0 0), .s (.slice none 0 0), .s (.slice none 0 0)], true⟩), (1, some ⟨79, .agg [.li .i64 x124, .ls x125, .sl 2 3 0 a195], true⟩), (2, some ⟨88, .lt (.pair (.pair (.int .i64) (.sl (.int .u64))) .str) a196, true⟩)], 3, none⟩ K) (fun (a199 : Int) (a200 : Int) => lpN (sub (bodyOf Tryd.prog 52) [1, 1, 1, 0, 1, 0, 0]) (fnX Tryd.prog mode10 T_put fuel 60 0) 576460752303423500 [2, 3, 35, 36, 37] k ⟨[(2, .ptr 0 3 0 0), (3, .ptr 1 3 0 0), (35, .lt (.pair (.pair (.int .i64) (.sl (.int .u64))) .str) x123), (36, .s (.int .i64 a199)), (37, .s (.int .i64 a200))], [(0, some ⟨79, .agg [.s (.slice none 0 0), .s (.slice none 0 0), .s (.slice none 0 0)], true⟩), (1, some ⟨79, .agg [.li .i64 x124, .ls x125, .s (.slice none 0 0)], true⟩)], 2, none⟩ K) (K (.exit 2) ⟨[(2, .ptr 0 3 0 0), (3, .ptr 1 3 0 0)], [(0, some ⟨79, .agg [.s (.slice none 0 0), .s (.slice none 0 0), .s (.slice none 0 0)], true⟩), (1, some ⟨79, .agg [.li .i64 x124, .ls x125, .s (.slice none 0 0)], true⟩)], 2, none⟩) := by kernel_rfl
noncomputable def refPeelF_l5 {R : Type} (fuel : Nat) (x123 : List ((Int × List Int) × ByteArray)) (x124 : List Int) (x125 : List ByteArray) (k0 : Nat → (List ((Int × List Int) × ByteArray)) → Option R) (k1 : Option R) : Nat → Int → Int → Option R
  | 0, _, _ => none
  | k + 1, w144, w145 =>
    (refPeelF_s10 w145 w144 x123 x124 x125 (fun (a189 : Int) (a190 : Nat) (a191 : List ((Int × List Int) × ByteArray)) => (refPeelF_l6 fuel x123 w144 x124 x125 (fun (x192 : Nat) (x193 : List ((Int × List Int) × ByteArray)) => k0 x192 x193) k a189 a190 a191)) (fun (a194 : Int) (a195 : Nat) (a196 : List ((Int × List Int) × ByteArray)) => (refPeelF_l6 fuel x123 w144 x124 x125 (fun (x197 : Nat) (x198 : List ((Int × List Int) × ByteArray)) => k0 x197 x198) k a194 a195 a196)) (fun (a199 : Int) (a200 : Int) => ( refPeelF_l5 fuel x123 x124 x125 k0 k1 k a199 a200 )) (k1))
theorem refPeelF_l5_eq (fuel : Nat) (x123 : List ((Int × List Int) × ByteArray)) (x124 : List Int) (x125 : List ByteArray) (K : Ex → St → Option Out) : ∀ (k : Nat) (w144 : Int) (w145 : Int), lpN (sub (bodyOf Tryd.prog 52) [1, 1, 1, 0, 1, 0, 0]) (fnX Tryd.prog mode10 T_put fuel 60 0) 576460752303423500 [2, 3, 35, 36, 37] k ⟨[(2, .ptr 0 3 0 0), (3, .ptr 1 3 0 0), (35, .lt (.pair (.pair (.int .i64) (.sl (.int .u64))) .str) x123), (36, .s (.int .i64 w144)), (37, .s (.int .i64 w145))], [(0, some ⟨79, .agg [.s (.slice none 0 0), .s (.slice none 0 0), .s (.slice none 0 0)], true⟩), (1, some ⟨79, .agg [.li .i64 x124, .ls x125, .s (.slice none 0 0)], true⟩)], 2, none⟩ K = refPeelF_l5 fuel x123 x124 x125 (fun (y165 : Nat) (y166 : List ((Int × List Int) × ByteArray)) => K (.exit 2) ⟨[(2, .ptr 0 3 0 0), (3, .ptr 1 3 0 0)], [(0, some ⟨79, .agg [.s (.slice none 0 0), .s (.slice none 0 0), .s (.slice none 0 0)], true⟩), (1, some ⟨79, .agg [.li .i64 x124, .ls x125, .sl 2 3 0 y165], true⟩), (2, some ⟨88, .lt (.pair (.pair (.int .i64) (.sl (.int .u64))) .str) y166, true⟩)], 3, none⟩) (K (.exit 2) ⟨[(2, .ptr 0 3 0 0), (3, .ptr 1 3 0 0)], [(0, some ⟨79, .agg [.s (.slice none 0 0), .s (.slice none 0 0), .s (.slice none 0 0)], true⟩), (1, some ⟨79, .agg [.li .i64 x124, .ls x125, .s (.slice none 0 0)], true⟩)], 2, none⟩) k w144 w145
  | 0, _, _ => rfl
  | k + 1, w144, w145 => by
    unfold refPeelF_l5
    exact (refPeelF_s10_eq fuel k K w145 w144 x123 x124 x125).trans (congr (congr (congr (congr (Eq.refl (refPeelF_s10 (R := Out) w145 w144 x123 x124 x125)) (funext fun a189 => funext fun a190 => funext fun a191 => refPeelF_l6_eq fuel x123 w144 x124 x125 K k a189 a190 a191)) (funext fun a194 => funext fun a195 => funext fun a196 => refPeelF_l6_eq fuel x123 w144 x124 x125 K k a194 a195 a196)) (funext fun a199 => funext fun a200 => refPeelF_l5_eq fuel x123 x124 x125 K k a199 a200)) (rfl))
noncomputable def refPeelF_s12 {R : Type} (x124 : List Int) (x125 : List ByteArray) (x204 : List ((Int × List Int) × ByteArray)) (x203 : Nat) (c0 : List Int → List ByteArray → (List ((Int × List Int) × ByteArray)) → Option R) : Option R :=
  c0 x124 x125 ((x204.drop 0).take x203)
theorem refPeelF_s12_eq (fuel : Nat)  (x124 : List Int) (x125 : List ByteArray) (x204 : List ((Int × List Int) × ByteArray)) (x203 : Nat) : (kont (fnX Tryd.prog mode10 T_put fuel 60 0) (bodyOf Tryd.prog 52) [1, 1, 1, 0, 1, 0] 4 (endK Tryd.prog 0 0 52)) (.exit 2) ⟨[(2, .ptr 0 3 0 0), (3, .ptr 1 3 0 0)], [(0, some ⟨79, .agg [.s (.slice none 0 0), .s (.slice none 0 0), .s (.slice none 0 0)], true⟩), (1, some ⟨79, .agg [.li .i64 x124, .ls x125, .sl 2 3 0 x203], true⟩), (2, some ⟨88, .lt (.pair (.pair (.int .i64) (.sl (.int .u64))) .str) x204, true⟩)], 3, none⟩ = refPeelF_s12 x124 x125 x204 x203 (fun (a205 : List Int) (a206 : List ByteArray) (a207 : List ((Int × List Int) × ByteArray)) => some (.agg [.li .i64 a205, .ls a206, .lt (.pair (.pair (.int .i64) (.sl (.int .u64))) .str) a207], [])) := by kernel_rfl
noncomputable def refPeelF_s13 {R : Type} (x124 : List Int) (x125 : List ByteArray) (c0 : List Int → List ByteArray → Option R) : Option R :=
  c0 x124 x125
theorem refPeelF_s13_eq (fuel : Nat)  (x124 : List Int) (x125 : List ByteArray) : (kont (fnX Tryd.prog mode10 T_put fuel 60 0) (bodyOf Tryd.prog 52) [1, 1, 1, 0, 1, 0] 4 (endK Tryd.prog 0 0 52)) (.exit 2) ⟨[(2, .ptr 0 3 0 0), (3, .ptr 1 3 0 0)], [(0, some ⟨79, .agg [.s (.slice none 0 0), .s (.slice none 0 0), .s (.slice none 0 0)], true⟩), (1, some ⟨79, .agg [.li .i64 x124, .ls x125, .s (.slice none 0 0)], true⟩)], 2, none⟩ = refPeelF_s13 x124 x125 (fun (a208 : List Int) (a209 : List ByteArray) => some (.agg [.li .i64 a208, .ls a209, .s (.slice none 0 0)], [])) := by kernel_rfl
noncomputable def refPeelF_s9 {R : Type} (x123 : List ((Int × List Int) × ByteArray)) (x124 : List Int) (x125 : List ByteArray) (c0 : Int → Int → Option R) : Option R :=
  c0 ((x123.length : Nat) : Int) 0
theorem refPeelF_s9_eq (fuel : Nat)  (x123 : List ((Int × List Int) × ByteArray)) (x124 : List Int) (x125 : List ByteArray) : (kont (fnX Tryd.prog mode10 T_put fuel 60 0) (bodyOf Tryd.prog 52) [1, 1, 0, 0] 4 (endK Tryd.prog 0 0 52)) (.exit 0) ⟨[(0, .lt (.pair (.pair (.int .i64) (.sl (.int .u64))) .str) x123), (2, .ptr 0 3 0 0), (3, .ptr 1 3 0 0)], [(0, some ⟨79, .agg [.s (.slice none 0 0), .s (.slice none 0 0), .s (.slice none 0 0)], true⟩), (1, some ⟨79, .agg [.li .i64 x124, .ls x125, .s (.slice none 0 0)], true⟩)], 2, none⟩ = refPeelF_s9 x123 x124 x125 (fun (a201 : Int) (a202 : Int) => lpN (sub (bodyOf Tryd.prog 52) [1, 1, 1, 0, 1, 0, 0]) (fnX Tryd.prog mode10 T_put fuel 60 0) 576460752303423500 [2, 3, 35, 36, 37] fuel ⟨[(2, .ptr 0 3 0 0), (3, .ptr 1 3 0 0), (35, .lt (.pair (.pair (.int .i64) (.sl (.int .u64))) .str) x123), (36, .s (.int .i64 a201)), (37, .s (.int .i64 a202))], [(0, some ⟨79, .agg [.s (.slice none 0 0), .s (.slice none 0 0), .s (.slice none 0 0)], true⟩), (1, some ⟨79, .agg [.li .i64 x124, .ls x125, .s (.slice none 0 0)], true⟩)], 2, none⟩ (kont (fnX Tryd.prog mode10 T_put fuel 60 0) (bodyOf Tryd.prog 52) [1, 1, 1, 0, 1, 0] 4 (endK Tryd.prog 0 0 52))) := by kernel_rfl
noncomputable def refPeelF_s1 {R : Type} (r : List ((Int × List Int) × ByteArray)) (c0 : Option R) : Option R :=
  c0
theorem refPeelF_s1_eq (fuel : Nat)  (r : List ((Int × List Int) × ByteArray)) : callN Tryd.prog mode10 T_put fuel 52 [.lt (.pair (.pair (.int .i64) (.sl (.int .u64))) .str) r] [] = refPeelF_s1 r (lpN (sub (bodyOf Tryd.prog 52) [1, 1, 0, 0, 0]) (fnX Tryd.prog mode10 T_put fuel 60 0) 1152921470247108877 [0, 2, 3] fuel ⟨[(0, .lt (.pair (.pair (.int .i64) (.sl (.int .u64))) .str) r), (2, .ptr 0 3 0 0), (3, .ptr 1 3 0 0)], [(0, some ⟨79, .agg [.s (.slice none 0 0), .s (.slice none 0 0), .s (.slice none 0 0)], true⟩), (1, some ⟨79, .agg [.s (.slice none 0 0), .s (.slice none 0 0), .s (.slice none 0 0)], true⟩)], 2, none⟩ (kont (fnX Tryd.prog mode10 T_put fuel 60 0) (bodyOf Tryd.prog 52) [1, 1, 0, 0] 4 (endK Tryd.prog 0 0 52))) := by kernel_rfl
noncomputable def refPeelF {R : Type} (fuel : Nat) (r : List ((Int × List Int) × ByteArray)) (r0 : (List ((Int × List Int) × ByteArray)) → Option R) (r1 : Option R) (r2 : List Int → List ByteArray → (List ((Int × List Int) × ByteArray)) → Option R) (r3 : List Int → List ByteArray → Option R) : Option R :=
  (refPeelF_s1 r ((refPeelF_l1 fuel r ((refPeelF_s4 r (fun (a118 : Int) (a119 : Int) => (refPeelF_l3 fuel r (fun (x120 : Nat) (x121 : List ((Int × List Int) × ByteArray)) => (refPeelF_s7 x121 x120 (fun (a122 : List ((Int × List Int) × ByteArray)) => r0 a122))) ((refPeelF_s8 (r1))) fuel a118 a119)))) (fun (x123 : List ((Int × List Int) × ByteArray)) (x124 : List Int) (x125 : List ByteArray) => (refPeelF_s9 x123 x124 x125 (fun (a201 : Int) (a202 : Int) => (refPeelF_l5 fuel x123 x124 x125 (fun (x203 : Nat) (x204 : List ((Int × List Int) × ByteArray)) => (refPeelF_s12 x124 x125 x204 x203 (fun (a205 : List Int) (a206 : List ByteArray) (a207 : List ((Int × List Int) × ByteArray)) => r2 a205 a206 a207))) ((refPeelF_s13 x124 x125 (fun (a208 : List Int) (a209 : List ByteArray) => r3 a208 a209))) fuel a201 a202)))) fuel)))
theorem refPeelF_eq (fuel : Nat) (r : List ((Int × List Int) × ByteArray)) : callN Tryd.prog mode10 T_put fuel 52 [.lt (.pair (.pair (.int .i64) (.sl (.int .u64))) .str) r] [] = refPeelF fuel r (fun (z0 : List ((Int × List Int) × ByteArray)) => some (.agg [.s (.slice none 0 0), .s (.slice none 0 0), .lt (.pair (.pair (.int .i64) (.sl (.int .u64))) .str) z0], [])) (some (.agg [.s (.slice none 0 0), .s (.slice none 0 0), .s (.slice none 0 0)], [])) (fun (z0 : List Int) (z1 : List ByteArray) (z2 : List ((Int × List Int) × ByteArray)) => some (.agg [.li .i64 z0, .ls z1, .lt (.pair (.pair (.int .i64) (.sl (.int .u64))) .str) z2], [])) (fun (z0 : List Int) (z1 : List ByteArray) => some (.agg [.li .i64 z0, .ls z1, .s (.slice none 0 0)], [])) := by
  unfold refPeelF
  exact (refPeelF_s1_eq fuel  r).trans (congr (Eq.refl (refPeelF_s1 (R := Out) r)) ((refPeelF_l1_eq fuel r (kont (fnX Tryd.prog mode10 T_put fuel 60 0) (bodyOf Tryd.prog 52) [1, 1, 0, 0] 4 (endK Tryd.prog 0 0 52)) fuel ).trans (congrFun (congr (congr (Eq.refl (refPeelF_l1 (R := Out) fuel r)) ((refPeelF_s4_eq fuel  r).trans (congr (Eq.refl (refPeelF_s4 (R := Out) r)) (funext fun a118 => funext fun a119 => (refPeelF_l3_eq fuel r (kont (fnX Tryd.prog mode10 T_put fuel 60 0) (bodyOf Tryd.prog 52) [1, 1, 1, 0, 1, 0] 4 (endK Tryd.prog 0 0 52)) fuel a118 a119).trans (congrFun (congrFun (congrFun (congr (congr (Eq.refl (refPeelF_l3 (R := Out) fuel r)) (funext fun x120 => funext fun x121 => (refPeelF_s7_eq fuel  x121 x120))) ((refPeelF_s8_eq fuel  ))) fuel) a118) a119))))) (funext fun x123 => funext fun x124 => funext fun x125 => (refPeelF_s9_eq fuel  x123 x124 x125).trans (congr (Eq.refl (refPeelF_s9 (R := Out) x123 x124 x125)) (funext fun a201 => funext fun a202 => (refPeelF_l5_eq fuel x123 x124 x125 (kont (fnX Tryd.prog mode10 T_put fuel 60 0) (bodyOf Tryd.prog 52) [1, 1, 1, 0, 1, 0] 4 (endK Tryd.prog 0 0 52)) fuel a201 a202).trans (congrFun (congrFun (congrFun (congr (congr (Eq.refl (refPeelF_l5 (R := Out) fuel x123 x124 x125)) (funext fun x203 => funext fun x204 => (refPeelF_s12_eq fuel  x124 x125 x204 x203))) ((refPeelF_s13_eq fuel  x124 x125))) fuel) a201) a202))))) fuel)))
theorem refPeel_loop {R : Type} (fuel m : Nat) (k0 : List Eqn → List Int → List ByteArray → Option R) (q : Nat) (hq : q ≤ 64) : ∀ (f k : Nat) (r : List Eqn) (t : List ByteArray) (l : List Int), PInv (m : Int) r l → t.length = m → zeros l ≤ f → f < k → r.length ≤ 64 → (∀ e, e ∈ r → e.2.size = q) →
    refPeelF_l2 fuel k0 k r (placesFrom l 0) (toldFrom l t) = k0 (peelN f r t l).1 (placesFrom (peelN f r t l).2.2 0) (toldFrom (peelN f r t l).2.2 (peelN f r t l).2.1)
  | f, 0, r, t, l, _, _, _, h, _, _ => by omega
  | f, k + 1, r, t, l, hI, ht, hz, hfk, hx, hsz => by
    obtain ⟨hm, hl, hr, hb⟩ := hI
    have hI : PInv (m : Int) r l := ⟨hm, hl, hr, hb⟩
    rw [Int.toNat_natCast] at hl
    unfold refPeelF_l2 refPeelF_s3
    rw [grd_of (by rw [hI.rtE]; simp; omega), br_if]
    rcases step_cases r with hs | ⟨j, hj, hs, h0⟩
    · rw [if_pos (by rw [hs]; decide), peel_stop (by rw [hs]; decide)]
    · have hmem := List.getElem_mem hj
      obtain ⟨g1, g2, g3⟩ := hr _ hmem
      obtain ⟨a1, a2, a3⟩ := hI.flag hj h0
      have hzs := zeros_set l _ a2 a3
      have hat := one_at g2 h0
      have hpl := places_le l 0
      have hpt := places_len l t 0 (by omega)
      have ezj := hsz _ hmem
      have er : ix r (stepS r) = some r[j] := by rw [hs, ix_nat]; exact List.getElem?_eq_getElem hj
      have hA : allOk r (oneS (r[j]).1.1 (r[j]).1.2) (r[j]).2 = true := allOk_iff.2 ⟨by omega, h0, by omega, fun e he => by
        obtain ⟨b1, b2, b3⟩ := hr e he
        exact ⟨b2, b3, by rw [b1]; exact a1, by rw [hsz e he, ezj]⟩⟩
      obtain ⟨i, hi⟩ : ∃ i : Nat, oneS (r[j]).1.1 (r[j]).1.2 = (i : Int) := ⟨(oneS (r[j]).1.1 (r[j]).1.2).toNat, by omega⟩
      rw [if_neg (by rw [hs]; simp), bnd_of er, grd_of (rt_guard g2 g3), bnd_of hat, bnd_of er, grd_of (by simp; omega), grd_of hA]
      rw [hi, Int.toNat_natCast] at a2 a3 hzs
      rw [hi] at a1 h0
      obtain ⟨f', rfl⟩ : ∃ f', f = f' + 1 := ⟨f - 1, by omega⟩
      have hlen : (r.map fun e => outE e (i : Int) (r[j]).2).length = r.length := List.length_map _
      have p1 := putA_set l i 0 a2 a3
      have p2 := putT_set (r[j]).2 l t i 0 (by omega) a2 a3
      rw [Int.zero_add] at p1 p2
      rw [hi, p1, p2]
      dsimp only
      have ih := refPeel_loop fuel m k0 q hq f' k (r.map fun e => outE e (i : Int) (r[j]).2) (t.set i (r[j]).2) (l.set i 1) (by have := hI.step (r[j]).2 h0 a1; rwa [Int.toNat_natCast] at this) (by rw [List.length_set]; exact ht) (by omega) (by omega) (by rw [hlen]; exact hx) (fun e he => by
        obtain ⟨e0, he0, rfl⟩ := List.mem_map.1 he
        obtain ⟨b1, b2, b3⟩ := hr e0 he0
        have hz0 := hsz e0 he0
        obtain ⟨⟨n, ws⟩, u⟩ := e0
        have b1 : n = (m : Int) := b1
        subst b1
        have := (out_spec (t := u) (s := (r[j]).2) b2 b3 h0 a1).2.2.2.2
        rw [this]
        have hz0 : u.size = q := hz0
        split
        · rw [xorT_size (by omega) (by omega)]; exact hz0
        · exact hz0)
      rw [ih, peelN, if_neg (by rw [hs]; simp), hs, Int.toNat_natCast, getD_eqn hj, hi, Int.toNat_natCast]
theorem refPeel_left4 {R : Type} (fuel : Nat)  (r : List Eqn) (hx : r.length ≤ 64) (hrt : ∀ e, e ∈ r → okW e.1.2 = true ∧ rtS e.1.1 e.1.2 = true) (hs : ∀ e, e ∈ r → e.2.size ≤ 64) (k0 : Nat → List Eqn → Option R) : ∀ (k j : Nat) (acc : List Eqn), j ≤ r.length → r.length < j + k → acc.length ≤ j →
    refPeelF_l4 fuel r (r.length : Int)  k0 k (j : Int) acc.length acc = k0 (acc ++ (r.drop j).filter leftB).length (acc ++ (r.drop j).filter leftB)
  | 0, j, acc, h1, h2, _ => by omega
  | k + 1, j, acc, h1, h2, ha => by
    unfold refPeelF_l4 refPeelF_s6
    rw [br_if]
    by_cases hc : j < r.length
    · have hm := List.getElem_mem hc
      obtain ⟨a1, a2⟩ := hrt _ hm
      rw [if_pos (by simpa using hc), bnd_of ((ix_nat r j).trans (List.getElem?_eq_getElem hc)), grd_of (rt_guard a1 a2), wrap_i64 (by omega) (by omega), show (j : Int) + 1 = ((j + 1 : Nat) : Int) by omega, grd_of (beq_self _), grd_of (okN_of (by omega) (by omega)), br_if, leftR a1 a2 (hs _ hm), List.drop_eq_getElem_cons hc]
      by_cases h : leftB r[j] = true
      · rw [if_pos h, List.filter_cons_of_pos h]
        have := refPeel_left4 fuel  r hx hrt hs k0 k (j + 1) (acc ++ [r[j]]) (by omega) (by omega) (by simp; omega)
        rw [List.append_assoc] at this
        exact this
      · rw [if_neg h, List.filter_cons_of_neg h]
        exact refPeel_left4 fuel  r hx hrt hs k0 k (j + 1) acc (by omega) (by omega) (by omega)
    · rw [if_neg (by simpa using hc), List.drop_eq_nil_of_le (by omega)]
      simp
theorem refPeel_left3 {R : Type} (fuel : Nat)  (r : List Eqn) (hx : r.length ≤ 64) (hrt : ∀ e, e ∈ r → okW e.1.2 = true ∧ rtS e.1.1 e.1.2 = true) (hs : ∀ e, e ∈ r → e.2.size ≤ 64) (k0 : Nat → List Eqn → Option R) (k1 : Option R) : ∀ (k j : Nat), j ≤ r.length → r.length < j + k →
    refPeelF_l3 fuel r  k0 k1 k (r.length : Int) (j : Int) = if ((r.drop j).filter leftB).length = 0 then k1 else k0 ((r.drop j).filter leftB).length ((r.drop j).filter leftB)
  | 0, j, h1, h2 => by omega
  | k + 1, j, h1, h2 => by
    unfold refPeelF_l3 refPeelF_s5
    rw [br_if]
    by_cases hc : j < r.length
    · have hm := List.getElem_mem hc
      obtain ⟨a1, a2⟩ := hrt _ hm
      rw [if_pos (by simpa using hc), bnd_of ((ix_nat r j).trans (List.getElem?_eq_getElem hc)), grd_of (rt_guard a1 a2), wrap_i64 (by omega) (by omega), show (j : Int) + 1 = ((j + 1 : Nat) : Int) by omega, br_if, leftR a1 a2 (hs _ hm), List.drop_eq_getElem_cons hc]
      by_cases h : leftB r[j] = true
      · rw [if_pos h, List.filter_cons_of_pos h, if_neg (by simp)]
        cases k with
        | zero => omega
        | succ k => exact refPeel_left4 fuel  r hx hrt hs _ (k + 1) (j + 1) [r[j]] (by omega) (by omega) (by simp)
      · rw [if_neg h, List.filter_cons_of_neg h]
        exact refPeel_left3 fuel  r hx hrt hs k0 k1 k (j + 1) (by omega) (by omega)
    · rw [if_neg (by simpa using hc), List.drop_eq_nil_of_le (by omega)]
      simp
theorem refPeel_left6 {R : Type} (fuel : Nat) (x124 : List Int) (x125 : List ByteArray) (r : List Eqn) (hx : r.length ≤ 64) (hrt : ∀ e, e ∈ r → okW e.1.2 = true ∧ rtS e.1.1 e.1.2 = true) (hs : ∀ e, e ∈ r → e.2.size ≤ 64) (k0 : Nat → List Eqn → Option R) : ∀ (k j : Nat) (acc : List Eqn), j ≤ r.length → r.length < j + k → acc.length ≤ j →
    refPeelF_l6 fuel r (r.length : Int) x124 x125 k0 k (j : Int) acc.length acc = k0 (acc ++ (r.drop j).filter leftB).length (acc ++ (r.drop j).filter leftB)
  | 0, j, acc, h1, h2, _ => by omega
  | k + 1, j, acc, h1, h2, ha => by
    unfold refPeelF_l6 refPeelF_s11
    rw [br_if]
    by_cases hc : j < r.length
    · have hm := List.getElem_mem hc
      obtain ⟨a1, a2⟩ := hrt _ hm
      rw [if_pos (by simpa using hc), bnd_of ((ix_nat r j).trans (List.getElem?_eq_getElem hc)), grd_of (rt_guard a1 a2), wrap_i64 (by omega) (by omega), show (j : Int) + 1 = ((j + 1 : Nat) : Int) by omega, grd_of (beq_self _), grd_of (okN_of (by omega) (by omega)), br_if, leftR a1 a2 (hs _ hm), List.drop_eq_getElem_cons hc]
      by_cases h : leftB r[j] = true
      · rw [if_pos h, List.filter_cons_of_pos h]
        have := refPeel_left6 fuel x124 x125 r hx hrt hs k0 k (j + 1) (acc ++ [r[j]]) (by omega) (by omega) (by simp; omega)
        rw [List.append_assoc] at this
        exact this
      · rw [if_neg h, List.filter_cons_of_neg h]
        exact refPeel_left6 fuel x124 x125 r hx hrt hs k0 k (j + 1) acc (by omega) (by omega) (by omega)
    · rw [if_neg (by simpa using hc), List.drop_eq_nil_of_le (by omega)]
      simp
theorem refPeel_left5 {R : Type} (fuel : Nat) (x124 : List Int) (x125 : List ByteArray) (r : List Eqn) (hx : r.length ≤ 64) (hrt : ∀ e, e ∈ r → okW e.1.2 = true ∧ rtS e.1.1 e.1.2 = true) (hs : ∀ e, e ∈ r → e.2.size ≤ 64) (k0 : Nat → List Eqn → Option R) (k1 : Option R) : ∀ (k j : Nat), j ≤ r.length → r.length < j + k →
    refPeelF_l5 fuel r x124 x125 k0 k1 k (r.length : Int) (j : Int) = if ((r.drop j).filter leftB).length = 0 then k1 else k0 ((r.drop j).filter leftB).length ((r.drop j).filter leftB)
  | 0, j, h1, h2 => by omega
  | k + 1, j, h1, h2 => by
    unfold refPeelF_l5 refPeelF_s10
    rw [br_if]
    by_cases hc : j < r.length
    · have hm := List.getElem_mem hc
      obtain ⟨a1, a2⟩ := hrt _ hm
      rw [if_pos (by simpa using hc), bnd_of ((ix_nat r j).trans (List.getElem?_eq_getElem hc)), grd_of (rt_guard a1 a2), wrap_i64 (by omega) (by omega), show (j : Int) + 1 = ((j + 1 : Nat) : Int) by omega, br_if, leftR a1 a2 (hs _ hm), List.drop_eq_getElem_cons hc]
      by_cases h : leftB r[j] = true
      · rw [if_pos h, List.filter_cons_of_pos h, if_neg (by simp)]
        cases k with
        | zero => omega
        | succ k => exact refPeel_left6 fuel x124 x125 r hx hrt hs _ (k + 1) (j + 1) [r[j]] (by omega) (by omega) (by simp)
      · rw [if_neg h, List.filter_cons_of_neg h]
        exact refPeel_left5 fuel x124 x125 r hx hrt hs k0 k1 k (j + 1) (by omega) (by omega)
    · rw [if_neg (by simpa using hc), List.drop_eq_nil_of_le (by omega)]
      simp
theorem refPeel_fact (r : List ((Int × List Int) × ByteArray)) (hg : (mayB (kOf r) r && okE r) = true) : Fact Tryd.prog gTab 52 [.lt (.pair (.pair (.int .i64) (.sl (.int .u64))) .str) r] [] (.agg [.li .i64 (pAt (kOf r) r), .ls (pTold (kOf r) r), .lt (.pair (.pair (.int .i64) (.sl (.int .u64))) .str) ((pLeft (kOf r) r) : List ((Int × List Int) × ByteArray))], []) := by
  rw [Bool.and_eq_true] at hg
  obtain ⟨hm, hok⟩ := hg
  generalize kOf r = z at hm ⊢
  obtain ⟨⟨z1, z2⟩, hx, hr⟩ := mayB_iff.1 hm
  have hI := pinv_start hok hm
  obtain ⟨m, rfl⟩ : ∃ m : Nat, z = (m : Int) := ⟨z.toNat, by omega⟩
  rw [Int.toNat_natCast] at hI
  have hq : r = [] ∨ (r.headD noE).2.size ≤ 64 := by
    cases r with
    | nil => exact .inl rfl
    | cons e0 t0 => exact .inr (hr e0 List.mem_cons_self).2.2.2
  obtain ⟨q, hq, hsz⟩ : ∃ q : Nat, q ≤ 64 ∧ ∀ e, e ∈ r → e.2.size = q := by
    rcases hq with h | h
    · subst h; exact ⟨0, by decide, fun e he => by simp at he⟩
    · exact ⟨_, h, fun e he => (hr e he).2.2.1⟩
  have hz := zeros_le (List.replicate m (0 : Int))
  rw [List.length_replicate] at hz
  have hlp := peel_end (f := 64) hI (t := List.replicate m ByteArray.empty) (by simp)
  have hsz' := peel_sizes (f := 64) (q := q) hI (t := List.replicate m ByteArray.empty) hq hsz
  have hE : pEnd (m : Int) r = peelN 64 r (List.replicate m ByteArray.empty) (List.replicate m 0) := by rw [pEnd_eq]; unfold pEndI; rw [Int.toNat_natCast]
  have hA : pAt (m : Int) r = placesFrom (peelN 64 r (List.replicate m ByteArray.empty) (List.replicate m 0)).2.2 0 := by rw [pAt_eq]; unfold pAtI; rw [if_pos hm, hE]
  have hT : pTold (m : Int) r = toldFrom (peelN 64 r (List.replicate m ByteArray.empty) (List.replicate m 0)).2.2 (peelN 64 r (List.replicate m ByteArray.empty) (List.replicate m 0)).2.1 := by rw [pTold_eq]; unfold pToldI; rw [if_pos hm, hE]
  have hL : pLeft (m : Int) r = (peelN 64 r (List.replicate m ByteArray.empty) (List.replicate m 0)).1.filter leftB := by rw [pLeft_eq]; unfold pLeftI; rw [if_pos hm, hE]
  rw [hA, hT, hL]
  clear hA hT hL hE
  rcases step_cases r with hs | ⟨j, hj, hs, h0⟩
  · rw [peel_stop (by rw [hs]; decide)] at hlp hsz' ⊢
    dsimp only
    rw [places_zero, told_zero]
    have hrt := rtE_iff.1 hI.rtE
    have h3 := fun k0 k1 => refPeel_left3 (R := Out) 70 r (by omega) hrt hsz' k0 k1 70 0 (by omega) (by omega)
    rw [List.drop_zero, show ((0 : Nat) : Int) = 0 from rfl] at h3
    have hwalk : callN Tryd.prog mode10 T_put 70 52 [.lt (.pair (.pair (.int .i64) (.sl (.int .u64))) .str) r] [] =
        if (r.filter leftB).length = 0 then some (.agg [.s (.slice none 0 0), .s (.slice none 0 0), .s (.slice none 0 0)], []) else some (.agg [.s (.slice none 0 0), .s (.slice none 0 0), .lt (.pair (.pair (.int .i64) (.sl (.int .u64))) .str) (r.filter leftB : List Eqn)], []) := by
      rw [refPeelF_eq]
      unfold refPeelF refPeelF_s1 refPeelF_l1 refPeelF_s2
      dsimp only
      rw [grd_of (by rw [hI.rtE]; simp; omega), br_if, if_pos (by rw [hs]; decide)]
      unfold refPeelF_s4
      dsimp only
      rw [h3]
      by_cases hf : (r.filter leftB).length = 0
      · rw [if_pos hf, if_pos hf]; rfl
      · rw [if_neg hf, if_neg hf]
        unfold refPeelF_s7
        rw [List.drop_zero, List.take_length]
    by_cases hf : (r.filter leftB).length = 0
    · rw [if_pos hf] at hwalk
      rw [List.eq_nil_of_length_eq_zero hf]
      exact (callN_fact hN hM T_put_ok hwalk).out fun _ _ _ x h => RV_agg_two (fun _ h => RVs_two (fun _ h => RV_nil_li h) (fun _ h => RVs_two (fun _ h => RV_nil_ls h) (fun _ h => RVs_two (fun _ h => RV_nil_sl (s := .pair (.pair (.int .i64) (.sl (.int .u64))) .str) h) (fun _ h => h) h) h) h) h
    · rw [if_neg hf] at hwalk
      exact (callN_fact hN hM T_put_ok hwalk).out fun _ _ _ x h => RV_agg_two (fun _ h => RVs_two (fun _ h => RV_nil_li h) (fun _ h => RVs_two (fun _ h => RV_nil_ls h) (fun _ h => h) h) h) h
  · have hloop := fun k0 => refPeel_loop (R := Out) 70 m k0 q hq 64 70 r (List.replicate m ByteArray.empty) (List.replicate m 0) hI (by simp) (by omega) (by decide) hx hsz
    rw [places_zero, told_zero] at hloop
    generalize peelN 64 r (List.replicate m ByteArray.empty) (List.replicate m 0) = p at *
    obtain ⟨r', t', l'⟩ := p
    obtain ⟨hJ, hrl, htl⟩ := hlp
    dsimp only at hJ hrl htl hsz' hloop ⊢
    have hrt := rtE_iff.1 hJ.rtE
    have h5 := fun k0 k1 => refPeel_left5 (R := Out) 70 (placesFrom l' 0) (toldFrom l' t') r' (by omega) hrt hsz' k0 k1 70 0 (by omega) (by omega)
    rw [List.drop_zero, show ((0 : Nat) : Int) = 0 from rfl] at h5
    have hwalk : callN Tryd.prog mode10 T_put 70 52 [.lt (.pair (.pair (.int .i64) (.sl (.int .u64))) .str) r] [] =
        if (r'.filter leftB).length = 0 then some (.agg [.li .i64 (placesFrom l' 0), .ls (toldFrom l' t'), .s (.slice none 0 0)], []) else some (.agg [.li .i64 (placesFrom l' 0), .ls (toldFrom l' t'), .lt (.pair (.pair (.int .i64) (.sl (.int .u64))) .str) (r'.filter leftB : List Eqn)], []) := by
      rw [refPeelF_eq]
      unfold refPeelF refPeelF_s1
      have e12 : ∀ (k0 : Option Out) (k1 : List Eqn → List Int → List ByteArray → Option Out), refPeelF_l1 70 r k0 k1 (69 + 1) = refPeelF_l2 70 k1 (69 + 1) r [] [] := fun k0 k1 => by
        rw [refPeelF_l1, refPeelF_l2]
        unfold refPeelF_s2 refPeelF_s3
        rw [br_if, br_if, if_neg (by rw [hs]; simp), if_neg (by rw [hs]; simp)]
      have e12 : ∀ (k0 : Option Out) (k1 : List Eqn → List Int → List ByteArray → Option Out), refPeelF_l1 70 r k0 k1 70 = refPeelF_l2 70 k1 70 r [] [] := e12
      rw [e12, hloop]
      unfold refPeelF_s9
      dsimp only
      rw [h5]
      by_cases hf : (r'.filter leftB).length = 0
      · rw [if_pos hf, if_pos hf]; rfl
      · rw [if_neg hf, if_neg hf]
        unfold refPeelF_s12
        rw [List.drop_zero, List.take_length]
    by_cases hf : (r'.filter leftB).length = 0
    · rw [if_pos hf] at hwalk
      rw [List.eq_nil_of_length_eq_zero hf]
      exact (callN_fact hN hM T_put_ok hwalk).out fun _ _ _ x h => RV_agg_two (fun _ h => RVs_two (fun _ h => h) (fun _ h => RVs_two (fun _ h => h) (fun _ h => RVs_two (fun _ h => RV_nil_sl (s := .pair (.pair (.int .i64) (.sl (.int .u64))) .str) h) (fun _ h => h) h) h) h) h
    · rw [if_neg hf] at hwalk
      exact callN_fact hN hM T_put_ok hwalk
noncomputable def refPeel_ent : List V → List Blk → Option (Bool × Out)
  | [w0], [] => (asSl (.pair (.pair (.int .i64) (.sl (.int .u64))) .str) w0).bind fun r => some ((mayB (kOf r) r && okE r), (.agg [.li .i64 (pAt (kOf r) r), .ls (pTold (kOf r) r), .lt (.pair (.pair (.int .i64) (.sl (.int .u64))) .str) ((pLeft (kOf r) r) : List ((Int × List Int) × ByteArray))], []))
  | _, _ => none
theorem refPeel_ok : ∀ args bs out, refPeel_ent args bs = some (true, out) → Fact Tryd.prog gTab 52 args bs out := by
  intro args bs out h
  unfold refPeel_ent at h
  split at h
  · rename_i w0
    obtain ⟨r, h_r, h⟩ := Option.bind_eq_some_iff.1 h
    simp only [Option.some.injEq, Prod.mk.injEq] at h
    obtain ⟨hg, rfl⟩ := h
    exact (refPeel_fact r hg).args (fun _ _ _ => fun _ h => RVs_two (fun _ h => RV_sl (s := (.pair (.pair (.int .i64) (.sl (.int .u64))) .str)) h_r h) (fun _ h => h) h)
  · cases h
noncomputable def T_refPeel : Tbl := Tbl.cons 52 refPeel_ent T_put
theorem T_refPeel_ok : CallOk Tryd.prog gTab T_refPeel := cons_ok T_put_ok refPeel_ok
def eqI_li (a b : List Int) : Bool := decide (a = b)
noncomputable def eqS_li : List Int → List Int → Bool := Classical.choose (⟨eqI_li, rfl⟩ : ∃ f, f = eqI_li)
theorem eqS_li_eq : eqS_li = eqI_li := Classical.choose_spec (⟨eqI_li, rfl⟩ : ∃ f, f = eqI_li)
theorem eqS_li_self (a : List Int) : eqS_li a a = true := by rw [eqS_li_eq]; simp [eqI_li]
/-! downpour/downpourref01.Numbers -/
noncomputable def refNumbersF_s2 {R : Type} (w6 : Int) (w5 : Int) (a : List Int) (b : List Int) (c0 : Option R) (c1 : Int → Int → Option R) (c2 : Option R) : Option R :=
  br (decide (w6 < w5))
    (bnd (ix a w6) fun e9 =>
    bnd (ix b w6) fun e10 =>
    br (e9 != e10)
      (c0)
      (c1 w5 (IntKind.i64.wrap (w6 + 1))))
    (c2)
theorem refNumbersF_s2_eq (fuel : Nat) (k : Nat) (K : Ex → St → Option Out) (w6 : Int) (w5 : Int) (a : List Int) (b : List Int) : lpN (sub (bodyOf Tryd.prog 18) [1, 1, 0, 1, 0, 0]) (fnX Tryd.prog mode10 T_refPeel fuel 26 0) 16 [0, 1, 4, 12, 13] (k + 1) ⟨[(0, .li .i64 a), (1, .li .i64 b), (4, .s (.bool false)), (12, .s (.int .i64 w5)), (13, .s (.int .i64 w6))], [], 0, none⟩ K = refNumbersF_s2 w6 w5 a b (K .ret ⟨[(4, .s (.bool false))], [], 0, none⟩) (fun (a11 : Int) (a12 : Int) => lpN (sub (bodyOf Tryd.prog 18) [1, 1, 0, 1, 0, 0]) (fnX Tryd.prog mode10 T_refPeel fuel 26 0) 16 [0, 1, 4, 12, 13] k ⟨[(0, .li .i64 a), (1, .li .i64 b), (4, .s (.bool false)), (12, .s (.int .i64 a11)), (13, .s (.int .i64 a12))], [], 0, none⟩ K) (K (.exit 0) ⟨[(4, .s (.bool false))], [], 0, none⟩) := by kernel_rfl
noncomputable def refNumbersF_l1 {R : Type} (fuel : Nat) (a : List Int) (b : List Int) (k0 : Option R) (k1 : Option R) : Nat → Int → Int → Option R
  | 0, _, _ => none
  | k + 1, w5, w6 =>
    (refNumbersF_s2 w6 w5 a b (k0) (fun (a11 : Int) (a12 : Int) => ( refNumbersF_l1 fuel a b k0 k1 k a11 a12 )) (k1))
theorem refNumbersF_l1_eq (fuel : Nat) (a : List Int) (b : List Int) (K : Ex → St → Option Out) : ∀ (k : Nat) (w5 : Int) (w6 : Int), lpN (sub (bodyOf Tryd.prog 18) [1, 1, 0, 1, 0, 0]) (fnX Tryd.prog mode10 T_refPeel fuel 26 0) 16 [0, 1, 4, 12, 13] k ⟨[(0, .li .i64 a), (1, .li .i64 b), (4, .s (.bool false)), (12, .s (.int .i64 w5)), (13, .s (.int .i64 w6))], [], 0, none⟩ K = refNumbersF_l1 fuel a b (K .ret ⟨[(4, .s (.bool false))], [], 0, none⟩) (K (.exit 0) ⟨[(4, .s (.bool false))], [], 0, none⟩) k w5 w6
  | 0, _, _ => rfl
  | k + 1, w5, w6 => by
    unfold refNumbersF_l1
    exact (refNumbersF_s2_eq fuel k K w6 w5 a b).trans (congr (congr (congr (Eq.refl (refNumbersF_s2 (R := Out) w6 w5 a b)) (rfl)) (funext fun a11 => funext fun a12 => refNumbersF_l1_eq fuel a b K k a11 a12)) (rfl))
noncomputable def refNumbersF_s3 {R : Type}  (c0 : Bool → Option R) : Option R :=
  c0 false
theorem refNumbersF_s3_eq (fuel : Nat)   : (kont (fnX Tryd.prog mode10 T_refPeel fuel 26 0) (bodyOf Tryd.prog 18) [1, 1, 0, 1, 0] 16 (endK Tryd.prog 0 0 18)) .ret ⟨[(4, .s (.bool false))], [], 0, none⟩ = refNumbersF_s3  (fun (a15 : Bool) => some (.s (.bool a15), [])) := by kernel_rfl
noncomputable def refNumbersF_s4 {R : Type}  (c0 : Bool → Option R) : Option R :=
  c0 true
theorem refNumbersF_s4_eq (fuel : Nat)   : (kont (fnX Tryd.prog mode10 T_refPeel fuel 26 0) (bodyOf Tryd.prog 18) [1, 1, 0, 1, 0] 16 (endK Tryd.prog 0 0 18)) (.exit 0) ⟨[(4, .s (.bool false))], [], 0, none⟩ = refNumbersF_s4  (fun (a16 : Bool) => some (.s (.bool a16), [])) := by kernel_rfl
noncomputable def refNumbersF_s1 {R : Type} (a : List Int) (b : List Int) (c0 : Bool → Option R) (c1 : Int → Int → Option R) : Option R :=
  br ((((a.length : Nat) : Int) : Int) != ((b.length : Nat) : Int))
    (c0 false)
    (c1 ((a.length : Nat) : Int) 0)
theorem refNumbersF_s1_eq (fuel : Nat)  (a : List Int) (b : List Int) : callN Tryd.prog mode10 T_refPeel fuel 18 [.li .i64 a, .li .i64 b] [] = refNumbersF_s1 a b (fun (a1 : Bool) => some (.s (.bool a1), [])) (fun (a13 : Int) (a14 : Int) => lpN (sub (bodyOf Tryd.prog 18) [1, 1, 0, 1, 0, 0]) (fnX Tryd.prog mode10 T_refPeel fuel 26 0) 16 [0, 1, 4, 12, 13] fuel ⟨[(0, .li .i64 a), (1, .li .i64 b), (4, .s (.bool false)), (12, .s (.int .i64 a13)), (13, .s (.int .i64 a14))], [], 0, none⟩ (kont (fnX Tryd.prog mode10 T_refPeel fuel 26 0) (bodyOf Tryd.prog 18) [1, 1, 0, 1, 0] 16 (endK Tryd.prog 0 0 18))) := by kernel_rfl
noncomputable def refNumbersF {R : Type} (fuel : Nat) (a : List Int) (b : List Int) (r0 : Bool → Option R) : Option R :=
  (refNumbersF_s1 a b (fun (a1 : Bool) => r0 a1) (fun (a13 : Int) (a14 : Int) => (refNumbersF_l1 fuel a b ((refNumbersF_s3 (fun (a15 : Bool) => r0 a15))) ((refNumbersF_s4 (fun (a16 : Bool) => r0 a16))) fuel a13 a14)))
theorem refNumbersF_eq (fuel : Nat) (a : List Int) (b : List Int) : callN Tryd.prog mode10 T_refPeel fuel 18 [.li .i64 a, .li .i64 b] [] = refNumbersF fuel a b (fun (z0 : Bool) => some (.s (.bool z0), [])) := by
  unfold refNumbersF
  exact (refNumbersF_s1_eq fuel  a b).trans (congr (congr (Eq.refl (refNumbersF_s1 (R := Out) a b)) (rfl)) (funext fun a13 => funext fun a14 => (refNumbersF_l1_eq fuel a b (kont (fnX Tryd.prog mode10 T_refPeel fuel 26 0) (bodyOf Tryd.prog 18) [1, 1, 0, 1, 0] 16 (endK Tryd.prog 0 0 18)) fuel a13 a14).trans (congrFun (congrFun (congrFun (congr (congr (Eq.refl (refNumbersF_l1 (R := Out) fuel a b)) ((refNumbersF_s3_eq fuel  ))) ((refNumbersF_s4_eq fuel  ))) fuel) a13) a14)))
theorem refNumbers_loop {R : Type} (fuel : Nat) (a b : List Int) (hab : a.length = b.length) (hx : a.length ≤ 1000000) (k0 k1 : Option R) : ∀ (k j : Nat), j ≤ a.length → a.length < j + k → refNumbersF_l1 fuel a b k0 k1 k (a.length : Int) (j : Int) = if a.drop j = b.drop j then k1 else k0
  | 0, j, h1, h2 => by omega
  | k + 1, j, h1, h2 => by
    unfold refNumbersF_l1 refNumbersF_s2
    rw [br_if]
    by_cases hc : j < a.length
    · have hc2 : j < b.length := by omega
      rw [if_pos (by simpa using hc), bnd_of ((ix_nat a j).trans (List.getElem?_eq_getElem hc)), bnd_of ((ix_nat b j).trans (List.getElem?_eq_getElem hc2)), br_if, List.drop_eq_getElem_cons hc, List.drop_eq_getElem_cons hc2, wrap_i64 (by omega) (by omega), show (j : Int) + 1 = ((j + 1 : Nat) : Int) by omega]
      dsimp only
      rw [refNumbers_loop fuel a b hab hx k0 k1 k (j + 1) (by omega) (by omega)]
      generalize a[j] = x
      generalize b[j] = y
      generalize a.drop (j + 1) = t
      generalize b.drop (j + 1) = u
      by_cases he : x = y <;> simp [he]
    · rw [if_neg (by simpa using hc), List.drop_eq_nil_of_le (by omega), List.drop_eq_nil_of_le (by omega)]
      simp
theorem refNumbers_fact (a : List Int) (b : List Int) (hg : (decide (List.length (α := Int) a ≤ 1000000)) = true) : Fact Tryd.prog gTab 18 [.li .i64 a, .li .i64 b] [] (.s (.bool (eqS_li a b)), []) := by
  have hg := of_decide_eq_true hg
  refine callN_fact hN hM T_refPeel_ok (n := a.length + 1) (mode := mode10) ?_
  rw [refNumbersF_eq]
  unfold refNumbersF refNumbersF_s1
  rw [br_if]
  by_cases hab : a.length = b.length
  · rw [if_neg (by simp; omega)]
    dsimp only
    have := refNumbers_loop (R := Out) (a.length + 1) a b hab hg
    rw [show (0 : Int) = ((0 : Nat) : Int) from rfl, this _ _ _ _ (by omega) (by omega), List.drop_zero, List.drop_zero, eqS_li_eq]
    unfold eqI_li refNumbersF_s3 refNumbersF_s4
    by_cases h : a = b <;> simp [h]
  · rw [if_pos (by simp; omega), eqS_li_eq]
    unfold eqI_li
    have : a ≠ b := by rintro rfl; exact hab rfl
    simp [this]
noncomputable def refNumbers_ent : List V → List Blk → Option (Bool × Out)
  | [w0, w1], [] => (asSl (.int .i64) w0).bind fun a => (asSl (.int .i64) w1).bind fun b => some ((decide (List.length (α := Int) a ≤ 1000000)), (.s (.bool (eqS_li a b)), []))
  | _, _ => none
theorem refNumbers_ok : ∀ args bs out, refNumbers_ent args bs = some (true, out) → Fact Tryd.prog gTab 18 args bs out := by
  intro args bs out h
  unfold refNumbers_ent at h
  split at h
  · rename_i w0 w1
    obtain ⟨a, h_a, h⟩ := Option.bind_eq_some_iff.1 h
    obtain ⟨b, h_b, h⟩ := Option.bind_eq_some_iff.1 h
    simp only [Option.some.injEq, Prod.mk.injEq] at h
    obtain ⟨hg, rfl⟩ := h
    exact (refNumbers_fact a b hg).args (fun _ _ _ => fun _ h => RVs_two (fun _ h => RV_li h_a h) (fun _ h => RVs_two (fun _ h => RV_li h_b h) (fun _ h => h) h) h)
  · cases h
noncomputable def T_refNumbers : Tbl := Tbl.cons 18 refNumbers_ent T_refPeel
theorem T_refNumbers_ok : CallOk Tryd.prog gTab T_refNumbers := cons_ok T_refPeel_ok refNumbers_ok
/-! downpour/downpourref15.Equations -/
noncomputable def refEqsF_s2 {R : Type} (w8 : Int) (w7 : Int) (a : List ((Int × List Int) × ByteArray)) (b : List ((Int × List Int) × ByteArray)) (c0 : Option R) (c1 : Option R) (c2 : Int → Int → Option R) (c3 : Option R) : Option R :=
  br (decide (w8 < w7))
    (bnd (ix a w8) fun e13 =>
    bnd (ix b w8) fun e14 =>
    grd (decide (e13.1.2.length ≤ 1000000)) <|
    br (!(eqRow e13.1.1 e13.1.2 e14.1.1 e14.1.2))
      (c0)
      (bnd (ix a w8) fun e15 =>
      bnd (ix b w8) fun e16 =>
      br (!(eqS e15.2 e16.2))
        (c1)
        (c2 w7 (IntKind.i64.wrap (w8 + 1)))))
    (c3)
theorem refEqsF_s2_eq (fuel : Nat) (k : Nat) (K : Ex → St → Option Out) (w8 : Int) (w7 : Int) (a : List ((Int × List Int) × ByteArray)) (b : List ((Int × List Int) × ByteArray)) : lpN (sub (bodyOf Tryd.prog 108) [1, 1, 0, 1, 0, 0]) (fnX Tryd.prog mode10 T_refNumbers fuel 42 0) 16 [0, 1, 4, 12, 13] (k + 1) ⟨[(0, .lt (.pair (.pair (.int .i64) (.sl (.int .u64))) .str) a), (1, .lt (.pair (.pair (.int .i64) (.sl (.int .u64))) .str) b), (4, .s (.bool false)), (12, .s (.int .i64 w7)), (13, .s (.int .i64 w8))], [], 0, none⟩ K = refEqsF_s2 w8 w7 a b (K .ret ⟨[(4, .s (.bool false))], [], 0, none⟩) (K .ret ⟨[(4, .s (.bool false))], [], 0, none⟩) (fun (a17 : Int) (a18 : Int) => lpN (sub (bodyOf Tryd.prog 108) [1, 1, 0, 1, 0, 0]) (fnX Tryd.prog mode10 T_refNumbers fuel 42 0) 16 [0, 1, 4, 12, 13] k ⟨[(0, .lt (.pair (.pair (.int .i64) (.sl (.int .u64))) .str) a), (1, .lt (.pair (.pair (.int .i64) (.sl (.int .u64))) .str) b), (4, .s (.bool false)), (12, .s (.int .i64 a17)), (13, .s (.int .i64 a18))], [], 0, none⟩ K) (K (.exit 0) ⟨[(4, .s (.bool false))], [], 0, none⟩) := by kernel_rfl
noncomputable def refEqsF_l1 {R : Type} (fuel : Nat) (a : List ((Int × List Int) × ByteArray)) (b : List ((Int × List Int) × ByteArray)) (k0 : Option R) (k1 : Option R) : Nat → Int → Int → Option R
  | 0, _, _ => none
  | k + 1, w7, w8 =>
    (refEqsF_s2 w8 w7 a b (k0) (k0) (fun (a17 : Int) (a18 : Int) => ( refEqsF_l1 fuel a b k0 k1 k a17 a18 )) (k1))
theorem refEqsF_l1_eq (fuel : Nat) (a : List ((Int × List Int) × ByteArray)) (b : List ((Int × List Int) × ByteArray)) (K : Ex → St → Option Out) : ∀ (k : Nat) (w7 : Int) (w8 : Int), lpN (sub (bodyOf Tryd.prog 108) [1, 1, 0, 1, 0, 0]) (fnX Tryd.prog mode10 T_refNumbers fuel 42 0) 16 [0, 1, 4, 12, 13] k ⟨[(0, .lt (.pair (.pair (.int .i64) (.sl (.int .u64))) .str) a), (1, .lt (.pair (.pair (.int .i64) (.sl (.int .u64))) .str) b), (4, .s (.bool false)), (12, .s (.int .i64 w7)), (13, .s (.int .i64 w8))], [], 0, none⟩ K = refEqsF_l1 fuel a b (K .ret ⟨[(4, .s (.bool false))], [], 0, none⟩) (K (.exit 0) ⟨[(4, .s (.bool false))], [], 0, none⟩) k w7 w8
  | 0, _, _ => rfl
  | k + 1, w7, w8 => by
    unfold refEqsF_l1
    exact (refEqsF_s2_eq fuel k K w8 w7 a b).trans (congr (congr (congr (congr (Eq.refl (refEqsF_s2 (R := Out) w8 w7 a b)) (rfl)) (rfl)) (funext fun a17 => funext fun a18 => refEqsF_l1_eq fuel a b K k a17 a18)) (rfl))
noncomputable def refEqsF_s3 {R : Type}  (c0 : Bool → Option R) : Option R :=
  c0 false
theorem refEqsF_s3_eq (fuel : Nat)   : (kont (fnX Tryd.prog mode10 T_refNumbers fuel 42 0) (bodyOf Tryd.prog 108) [1, 1, 0, 1, 0] 16 (endK Tryd.prog 0 0 108)) .ret ⟨[(4, .s (.bool false))], [], 0, none⟩ = refEqsF_s3  (fun (a21 : Bool) => some (.s (.bool a21), [])) := by kernel_rfl
noncomputable def refEqsF_s4 {R : Type}  (c0 : Bool → Option R) : Option R :=
  c0 true
theorem refEqsF_s4_eq (fuel : Nat)   : (kont (fnX Tryd.prog mode10 T_refNumbers fuel 42 0) (bodyOf Tryd.prog 108) [1, 1, 0, 1, 0] 16 (endK Tryd.prog 0 0 108)) (.exit 0) ⟨[(4, .s (.bool false))], [], 0, none⟩ = refEqsF_s4  (fun (a22 : Bool) => some (.s (.bool a22), [])) := by kernel_rfl
noncomputable def refEqsF_s1 {R : Type} (a : List ((Int × List Int) × ByteArray)) (b : List ((Int × List Int) × ByteArray)) (c0 : Bool → Option R) (c1 : Int → Int → Option R) : Option R :=
  br ((((a.length : Nat) : Int) : Int) != ((b.length : Nat) : Int))
    (c0 false)
    (c1 ((a.length : Nat) : Int) 0)
theorem refEqsF_s1_eq (fuel : Nat)  (a : List ((Int × List Int) × ByteArray)) (b : List ((Int × List Int) × ByteArray)) : callN Tryd.prog mode10 T_refNumbers fuel 108 [.lt (.pair (.pair (.int .i64) (.sl (.int .u64))) .str) a, .lt (.pair (.pair (.int .i64) (.sl (.int .u64))) .str) b] [] = refEqsF_s1 a b (fun (a1 : Bool) => some (.s (.bool a1), [])) (fun (a19 : Int) (a20 : Int) => lpN (sub (bodyOf Tryd.prog 108) [1, 1, 0, 1, 0, 0]) (fnX Tryd.prog mode10 T_refNumbers fuel 42 0) 16 [0, 1, 4, 12, 13] fuel ⟨[(0, .lt (.pair (.pair (.int .i64) (.sl (.int .u64))) .str) a), (1, .lt (.pair (.pair (.int .i64) (.sl (.int .u64))) .str) b), (4, .s (.bool false)), (12, .s (.int .i64 a19)), (13, .s (.int .i64 a20))], [], 0, none⟩ (kont (fnX Tryd.prog mode10 T_refNumbers fuel 42 0) (bodyOf Tryd.prog 108) [1, 1, 0, 1, 0] 16 (endK Tryd.prog 0 0 108))) := by kernel_rfl
noncomputable def refEqsF {R : Type} (fuel : Nat) (a : List ((Int × List Int) × ByteArray)) (b : List ((Int × List Int) × ByteArray)) (r0 : Bool → Option R) : Option R :=
  (refEqsF_s1 a b (fun (a1 : Bool) => r0 a1) (fun (a19 : Int) (a20 : Int) => (refEqsF_l1 fuel a b ((refEqsF_s3 (fun (a21 : Bool) => r0 a21))) ((refEqsF_s4 (fun (a22 : Bool) => r0 a22))) fuel a19 a20)))
theorem refEqsF_eq (fuel : Nat) (a : List ((Int × List Int) × ByteArray)) (b : List ((Int × List Int) × ByteArray)) : callN Tryd.prog mode10 T_refNumbers fuel 108 [.lt (.pair (.pair (.int .i64) (.sl (.int .u64))) .str) a, .lt (.pair (.pair (.int .i64) (.sl (.int .u64))) .str) b] [] = refEqsF fuel a b (fun (z0 : Bool) => some (.s (.bool z0), [])) := by
  unfold refEqsF
  exact (refEqsF_s1_eq fuel  a b).trans (congr (congr (Eq.refl (refEqsF_s1 (R := Out) a b)) (rfl)) (funext fun a19 => funext fun a20 => (refEqsF_l1_eq fuel a b (kont (fnX Tryd.prog mode10 T_refNumbers fuel 42 0) (bodyOf Tryd.prog 108) [1, 1, 0, 1, 0] 16 (endK Tryd.prog 0 0 108)) fuel a19 a20).trans (congrFun (congrFun (congrFun (congr (congr (Eq.refl (refEqsF_l1 (R := Out) fuel a b)) ((refEqsF_s3_eq fuel  ))) ((refEqsF_s4_eq fuel  ))) fuel) a19) a20)))
theorem refEqs_loop {R : Type} (fuel : Nat) (a b : List Eqn) (hab : a.length = b.length) (hs : shE a = true) (k0 k1 : Option R) : ∀ (k j : Nat), j ≤ a.length → a.length < j + k → refEqsF_l1 fuel a b k0 k1 k (a.length : Int) (j : Int) = if a.drop j = b.drop j then k1 else k0
  | 0, j, h1, h2 => by omega
  | k + 1, j, h1, h2 => by
    obtain ⟨hx, hr⟩ := shE_iff.1 hs
    unfold refEqsF_l1 refEqsF_s2
    rw [br_if]
    by_cases hc : j < a.length
    · have hc2 : j < b.length := by omega
      have ea := (ix_nat a j).trans (List.getElem?_eq_getElem hc)
      have eb := (ix_nat b j).trans (List.getElem?_eq_getElem hc2)
      rw [if_pos (by simpa using hc), bnd_of ea, bnd_of eb, grd_of (decide_eq_true (hr _ (List.getElem_mem hc))), br_if, bnd_of ea, bnd_of eb, br_if, List.drop_eq_getElem_cons hc, List.drop_eq_getElem_cons hc2, wrap_i64 (by omega) (by omega), show (j : Int) + 1 = ((j + 1 : Nat) : Int) by omega]
      dsimp only
      rw [refEqs_loop fuel a b hab hs k0 k1 k (j + 1) (by omega) (by omega), eqRow_eq, eqS_decide]
      unfold eqRowI
      generalize a[j] = x
      generalize b[j] = y
      generalize a.drop (j + 1) = t
      generalize b.drop (j + 1) = u
      obtain ⟨⟨x1, x2⟩, x3⟩ := x
      obtain ⟨⟨y1, y2⟩, y3⟩ := y
      by_cases he : x1 = y1
      · by_cases he2 : x2 = y2
        · by_cases he3 : x3 = y3 <;> simp [he, he2, he3]
        · simp [he, he2]
      · simp [he]
    · rw [if_neg (by simpa using hc), List.drop_eq_nil_of_le (by omega), List.drop_eq_nil_of_le (by omega)]
      simp
theorem refEqs_fact (a : List ((Int × List Int) × ByteArray)) (b : List ((Int × List Int) × ByteArray)) (hg : (shE a) = true) : Fact Tryd.prog gTab 108 [.lt (.pair (.pair (.int .i64) (.sl (.int .u64))) .str) a, .lt (.pair (.pair (.int .i64) (.sl (.int .u64))) .str) b] [] (.s (.bool (eqE a b)), []) := by
  have hx := (shE_iff.1 hg).1
  refine callN_fact hN hM T_refNumbers_ok (n := a.length + 1) (mode := mode10) ?_
  rw [refEqsF_eq]
  unfold refEqsF refEqsF_s1
  rw [br_if, eqE_eq]
  unfold eqEI
  by_cases hab : a.length = b.length
  · rw [if_neg (by simp; omega)]
    dsimp only
    have := refEqs_loop (R := Out) (a.length + 1) a b hab hg
    rw [show (0 : Int) = ((0 : Nat) : Int) from rfl, this _ _ _ _ (by omega) (by omega), List.drop_zero, List.drop_zero]
    unfold refEqsF_s3 refEqsF_s4
    by_cases h : a = b <;> simp [h]
  · rw [if_pos (by simp; omega)]
    have : a ≠ b := by rintro rfl; exact hab rfl
    simp [this]
noncomputable def refEqs_ent : List V → List Blk → Option (Bool × Out)
  | [w0, w1], [] => (asSl (.pair (.pair (.int .i64) (.sl (.int .u64))) .str) w0).bind fun a => (asSl (.pair (.pair (.int .i64) (.sl (.int .u64))) .str) w1).bind fun b => some ((shE a), (.s (.bool (eqE a b)), []))
  | _, _ => none
theorem refEqs_ok : ∀ args bs out, refEqs_ent args bs = some (true, out) → Fact Tryd.prog gTab 108 args bs out := by
  intro args bs out h
  unfold refEqs_ent at h
  split at h
  · rename_i w0 w1
    obtain ⟨a, h_a, h⟩ := Option.bind_eq_some_iff.1 h
    obtain ⟨b, h_b, h⟩ := Option.bind_eq_some_iff.1 h
    simp only [Option.some.injEq, Prod.mk.injEq] at h
    obtain ⟨hg, rfl⟩ := h
    exact (refEqs_fact a b hg).args (fun _ _ _ => fun _ h => RVs_two (fun _ h => RV_sl (s := (.pair (.pair (.int .i64) (.sl (.int .u64))) .str)) h_a h) (fun _ h => RVs_two (fun _ h => RV_sl (s := (.pair (.pair (.int .i64) (.sl (.int .u64))) .str)) h_b h) (fun _ h => h) h) h)
  · cases h
noncomputable def T_refEqs : Tbl := Tbl.cons 108 refEqs_ent T_refNumbers
theorem T_refEqs_ok : CallOk Tryd.prog gTab T_refEqs := cons_ok T_refNumbers_ok refEqs_ok
/-! downpour/downpourref15.Same -/
noncomputable def refPSameF_s1 {R : Type} (a : List Int) (b : List Int) (t : List ByteArray) (u : List ByteArray) (l : List ((Int × List Int) × ByteArray)) (m : List ((Int × List Int) × ByteArray)) (c0 : Bool → Option R) : Option R :=
  grd (decide (List.length (α := Int) a ≤ 1000000)) <|
  br (eqS_li a b)
    (grd (decide (t.length ≤ 1000000)) <|
    br (eqTS t u)
      (grd (shE l) <|
      c0 (eqE l m))
      (c0 false))
    (c0 false)
theorem refPSameF_s1_eq (fuel : Nat)  (a : List Int) (b : List Int) (t : List ByteArray) (u : List ByteArray) (l : List ((Int × List Int) × ByteArray)) (m : List ((Int × List Int) × ByteArray)) : callN Tryd.prog mode10 T_refEqs fuel 51 [.agg [.li .i64 a, .ls t, .lt (.pair (.pair (.int .i64) (.sl (.int .u64))) .str) l], .agg [.li .i64 b, .ls u, .lt (.pair (.pair (.int .i64) (.sl (.int .u64))) .str) m]] [] = refPSameF_s1 a b t u l m (fun (a1 : Bool) => some (.s (.bool a1), [])) := by kernel_rfl
noncomputable def refPSameF {R : Type} (fuel : Nat) (a : List Int) (t : List ByteArray) (l : List ((Int × List Int) × ByteArray)) (b : List Int) (u : List ByteArray) (m : List ((Int × List Int) × ByteArray)) (r0 : Bool → Option R) : Option R :=
  (refPSameF_s1 a b t u l m (fun (a1 : Bool) => r0 a1))
theorem refPSameF_eq (fuel : Nat) (a : List Int) (t : List ByteArray) (l : List ((Int × List Int) × ByteArray)) (b : List Int) (u : List ByteArray) (m : List ((Int × List Int) × ByteArray)) : callN Tryd.prog mode10 T_refEqs fuel 51 [.agg [.li .i64 a, .ls t, .lt (.pair (.pair (.int .i64) (.sl (.int .u64))) .str) l], .agg [.li .i64 b, .ls u, .lt (.pair (.pair (.int .i64) (.sl (.int .u64))) .str) m]] [] = refPSameF fuel a t l b u m (fun (z0 : Bool) => some (.s (.bool z0), [])) := by
  unfold refPSameF
  exact (refPSameF_s1_eq fuel  a b t u l m)
theorem refPSame_fact (a : List Int) (t : List ByteArray) (l : List ((Int × List Int) × ByteArray)) (b : List Int) (u : List ByteArray) (m : List ((Int × List Int) × ByteArray)) (hg : (decide (List.length (α := Int) a ≤ 1000000) && decide (List.length (α := ByteArray) t ≤ 1000000) && shE l) = true) : Fact Tryd.prog gTab 51 [.agg [.li .i64 a, .ls t, .lt (.pair (.pair (.int .i64) (.sl (.int .u64))) .str) l], .agg [.li .i64 b, .ls u, .lt (.pair (.pair (.int .i64) (.sl (.int .u64))) .str) m]] [] (.s (.bool (eqS_li a b && (eqTS t u && eqE l m))), []) := by
  simp only [Bool.and_eq_true] at hg
  obtain ⟨⟨h1, h2⟩, h3⟩ := hg
  refine callN_fact hN hM T_refEqs_ok (n := 0) (mode := mode10) ?_
  rw [refPSameF_eq]
  unfold refPSameF refPSameF_s1
  rw [grd_of h1, grd_of h2, grd_of h3]
  cases eqS_li a b <;> cases eqTS t u <;> rfl
noncomputable def refPSame_ent : List V → List Blk → Option (Bool × Out)
  | [.agg [w0, w1, w2], .agg [w3, w4, w5]], [] => (asSl (.int .i64) w0).bind fun a => (asSl .str w1).bind fun t => (asSl (.pair (.pair (.int .i64) (.sl (.int .u64))) .str) w2).bind fun l => (asSl (.int .i64) w3).bind fun b => (asSl .str w4).bind fun u => (asSl (.pair (.pair (.int .i64) (.sl (.int .u64))) .str) w5).bind fun m => some ((decide (List.length (α := Int) a ≤ 1000000) && decide (List.length (α := ByteArray) t ≤ 1000000) && shE l), (.s (.bool (eqS_li a b && (eqTS t u && eqE l m))), []))
  | _, _ => none
theorem refPSame_ok : ∀ args bs out, refPSame_ent args bs = some (true, out) → Fact Tryd.prog gTab 51 args bs out := by
  intro args bs out h
  unfold refPSame_ent at h
  split at h
  · rename_i w0 w1 w2 w3 w4 w5
    obtain ⟨a, h_a, h⟩ := Option.bind_eq_some_iff.1 h
    obtain ⟨t, h_t, h⟩ := Option.bind_eq_some_iff.1 h
    obtain ⟨l, h_l, h⟩ := Option.bind_eq_some_iff.1 h
    obtain ⟨b, h_b, h⟩ := Option.bind_eq_some_iff.1 h
    obtain ⟨u, h_u, h⟩ := Option.bind_eq_some_iff.1 h
    obtain ⟨m, h_m, h⟩ := Option.bind_eq_some_iff.1 h
    simp only [Option.some.injEq, Prod.mk.injEq] at h
    obtain ⟨hg, rfl⟩ := h
    exact (refPSame_fact a t l b u m hg).args (fun _ _ _ => fun _ h => RVs_two (fun _ h => RV_agg_two (fun _ h => RVs_two (fun _ h => RV_li h_a h) (fun _ h => RVs_two (fun _ h => RV_ls h_t h) (fun _ h => RVs_two (fun _ h => RV_sl (s := (.pair (.pair (.int .i64) (.sl (.int .u64))) .str)) h_l h) (fun _ h => h) h) h) h) h) (fun _ h => RVs_two (fun _ h => RV_agg_two (fun _ h => RVs_two (fun _ h => RV_li h_b h) (fun _ h => RVs_two (fun _ h => RV_ls h_u h) (fun _ h => RVs_two (fun _ h => RV_sl (s := (.pair (.pair (.int .i64) (.sl (.int .u64))) .str)) h_m h) (fun _ h => h) h) h) h) h) (fun _ h => h) h) h)
  · cases h
noncomputable def T_refPSame : Tbl := Tbl.cons 51 refPSame_ent T_refEqs
theorem T_refPSame_ok : CallOk Tryd.prog gTab T_refPSame := cons_ok T_refEqs_ok refPSame_ok
def mode11 : FuncId → Nat := fun f => bif Nat.beq f 104 then 2 else bif Nat.beq f 105 then 2 else 0
/-! The law on peeling. -/
def cutE (e : Eqn) : Eqn := ((e.1.1, e.1.2.take 3), e.2.extract 0 (min e.2.size 66))
theorem few_E (r : List Eqn) : fewES r = (r.take 66).map cutE := by rw [fewES_eq]; rfl
theorem few_Elen (r : List Eqn) : (fewES r).length ≤ 66 := by rw [few_E, List.length_map, List.length_take]; omega
theorem few_Eok {r : List Eqn} (h : okE r = true) : okE (fewES r) = true := by
  rw [few_E]
  refine okE_iff.2 fun e he => ?_
  obtain ⟨e0, he0, rfl⟩ := List.mem_map.1 he
  exact okW_iff.2 (ok_take (okW_iff.1 (okE_iff.1 h e0 (List.mem_of_mem_take he0))) 3)
theorem few_Esh (r : List Eqn) (e : Eqn) (h : e ∈ fewES r) : e.1.2.length ≤ 3 := by
  rw [few_E] at h
  obtain ⟨e0, he0, rfl⟩ := List.mem_map.1 h
  show (e0.1.2.take 3).length ≤ 3
  rw [List.length_take]; omega
theorem cut_e (e : Eqn) : ((e.1.1, ((e.1.2.drop 0).take (min e.1.2.length 3 - 0))), e.2.extract 0 (min e.2.size 66)) = cutE e := by
  unfold cutE
  rw [List.drop_zero, Nat.sub_zero]
  have : e.1.2.take (min e.1.2.length 3) = e.1.2.take 3 := by
    by_cases h : e.1.2.length ≤ 3
    · rw [Nat.min_eq_left h, List.take_length, List.take_of_length_le h]
    · rw [Nat.min_eq_right (by omega)]
  rw [this]
theorem up_min (n m : Nat) : upTo (min ((n : Nat) : Int) (m : Int)) n = some (min n m) := by rw [upTo_of (by omega) (by omega)]; congr 1; omega
theorem step_nil : stepS [] = -1 := by rw [stepS_eq]; rfl
theorem p_nil (z : Int) : pAt z [] = [] ∧ pTold z [] = [] ∧ pLeft z [] = [] := by
  have h : pEnd z [] = ([], List.replicate z.toNat ByteArray.empty, List.replicate z.toNat 0) := by
    rw [pEnd_eq]; unfold pEndI; exact peel_stop (by rw [step_nil]; decide)
  rw [pAt_eq, pTold_eq, pLeft_eq]
  unfold pAtI pToldI pLeftI
  rw [h]
  dsimp only
  rw [places_zero, told_zero]
  simp
theorem k_may {z : Int} {r : List Eqn} (hm : mayB z r = true) (hr : r.length ≠ 0) : kOf r = z := by
  obtain ⟨_, _, h⟩ := mayB_iff.1 hm
  unfold kOf
  rw [if_neg hr]
  cases r with
  | nil => simp at hr
  | cons e t => exact (h e List.mem_cons_self).1
theorem left_sub {z : Int} {r : List Eqn} (hok : okE r = true) (hm : mayB z r = true) : shE (pLeft z r) = true ∧ (pAt z r).length ≤ 64 ∧ (pTold z r).length ≤ 64 := by
  obtain ⟨⟨z1, z2⟩, hx, hr⟩ := mayB_iff.1 hm
  have hI := pinv_start hok hm
  have hl := peel_end (f := 64) hI (t := List.replicate z.toNat ByteArray.empty) (by simp)
  rw [pLeft_eq, pAt_eq, pTold_eq]
  unfold pLeftI pAtI pToldI
  rw [if_pos hm, if_pos hm, if_pos hm, pEnd_eq]
  unfold pEndI
  obtain ⟨hJ, h1, h2⟩ := hl
  have hll := hJ.2.1
  have hp := places_le (peelN 64 r (List.replicate z.toNat ByteArray.empty) (List.replicate z.toNat 0)).2.2 0
  have hq := places_len (peelN 64 r (List.replicate z.toNat ByteArray.empty) (List.replicate z.toNat 0)).2.2 (peelN 64 r (List.replicate z.toNat ByteArray.empty) (List.replicate z.toNat 0)).2.1 0 (by omega)
  refine ⟨shE_iff.2 ⟨?_, fun e he => ?_⟩, by omega, by omega⟩
  · have := List.length_filter_le leftB (peelN 64 r (List.replicate z.toNat ByteArray.empty) (List.replicate z.toNat 0)).1
    omega
  · have := rt_le (hJ.2.2.1 e ((List.mem_filter.1 he).1)).2.2
    omega
/-! downpour/downpourlaw15.few -/
noncomputable def fewEF_s3 {R : Type} (w29 : Int) (w3 : Int) (w2 : List ((Int × List Int) × ByteArray)) (w30 : List ((Int × List Int) × ByteArray)) (w28 : Nat) (c0 : Nat → Int → (List ((Int × List Int) × ByteArray)) → Option R) (c1 : Nat → (List ((Int × List Int) × ByteArray)) → Option R) : Option R :=
  br (decide (w29 < w3))
    (bnd (ix w2 w29) fun e36 =>
    bnd (upTo (min ((e36.1.2.length : Nat) : Int) 3) e36.1.2.length) fun j37 =>
    bnd (upTo (min ((e36.2.size : Nat) : Int) 66) e36.2.size) fun j38 =>
    grd (Nat.beq w30.length w28) <|
    grd (okN (w28 + 1) 48) <|
    c0 ((w30 ++ [((e36.1.1, ((e36.1.2.drop 0).take (j37 - 0))), (e36.2.extract 0 j38))]).length) (IntKind.i64.wrap (w29 + 1)) (w30 ++ [((e36.1.1, ((e36.1.2.drop 0).take (j37 - 0))), (e36.2.extract 0 j38))]))
    (c1 w28 w30)
theorem fewEF_s3_eq (fuel : Nat) (k : Nat) (K : Ex → St → Option Out) (w29 : Int) (w3 : Int) (w2 : List ((Int × List Int) × ByteArray)) (w30 : List ((Int × List Int) × ByteArray)) (w28 : Nat) : lpN (sub (bodyOf Tryd.prog 47) [1, 1, 0, 1, 0, 0]) (fnX Tryd.prog mode11 T_refPSame fuel 41 0) 1099511627788 [2, 3, 10, 11, 12] (k + 1) ⟨[(2, .s (.slice none 0 0)), (3, .sl 0 3 0 w28), (10, .lt (.pair (.pair (.int .i64) (.sl (.int .u64))) .str) w2), (11, .s (.int .i64 w3)), (12, .s (.int .i64 w29))], [(0, some ⟨88, .lt (.pair (.pair (.int .i64) (.sl (.int .u64))) .str) w30, true⟩)], 1, none⟩ K = fewEF_s3 w29 w3 w2 w30 w28 (fun (a39 : Nat) (a40 : Int) (a41 : List ((Int × List Int) × ByteArray)) => lpN (sub (bodyOf Tryd.prog 47) [1, 1, 0, 1, 0, 0]) (fnX Tryd.prog mode11 T_refPSame fuel 41 0) 1099511627788 [2, 3, 10, 11, 12] k ⟨[(2, .s (.slice none 0 0)), (3, .sl 0 3 0 a39), (10, .lt (.pair (.pair (.int .i64) (.sl (.int .u64))) .str) w2), (11, .s (.int .i64 w3)), (12, .s (.int .i64 a40))], [(0, some ⟨88, .lt (.pair (.pair (.int .i64) (.sl (.int .u64))) .str) a41, true⟩)], 1, none⟩ K) (fun (a42 : Nat) (a43 : List ((Int × List Int) × ByteArray)) => K (.exit 0) ⟨[(2, .s (.slice none 0 0)), (3, .sl 0 3 0 a42)], [(0, some ⟨88, .lt (.pair (.pair (.int .i64) (.sl (.int .u64))) .str) a43, true⟩)], 1, none⟩) := by kernel_rfl
noncomputable def fewEF_l2 {R : Type} (fuel : Nat) (w2 : List ((Int × List Int) × ByteArray)) (w3 : Int) (k0 : Nat → (List ((Int × List Int) × ByteArray)) → Option R) : Nat → Nat → Int → (List ((Int × List Int) × ByteArray)) → Option R
  | 0, _, _, _ => none
  | k + 1, w28, w29, w30 =>
    (fewEF_s3 w29 w3 w2 w30 w28 (fun (a39 : Nat) (a40 : Int) (a41 : List ((Int × List Int) × ByteArray)) => ( fewEF_l2 fuel w2 w3 k0 k a39 a40 a41 )) (fun (a42 : Nat) (a43 : List ((Int × List Int) × ByteArray)) => k0 a42 a43))
theorem fewEF_l2_eq (fuel : Nat) (w2 : List ((Int × List Int) × ByteArray)) (w3 : Int) (K : Ex → St → Option Out) : ∀ (k : Nat) (w28 : Nat) (w29 : Int) (w30 : List ((Int × List Int) × ByteArray)), lpN (sub (bodyOf Tryd.prog 47) [1, 1, 0, 1, 0, 0]) (fnX Tryd.prog mode11 T_refPSame fuel 41 0) 1099511627788 [2, 3, 10, 11, 12] k ⟨[(2, .s (.slice none 0 0)), (3, .sl 0 3 0 w28), (10, .lt (.pair (.pair (.int .i64) (.sl (.int .u64))) .str) w2), (11, .s (.int .i64 w3)), (12, .s (.int .i64 w29))], [(0, some ⟨88, .lt (.pair (.pair (.int .i64) (.sl (.int .u64))) .str) w30, true⟩)], 1, none⟩ K = fewEF_l2 fuel w2 w3 (fun (y34 : Nat) (y35 : List ((Int × List Int) × ByteArray)) => K (.exit 0) ⟨[(2, .s (.slice none 0 0)), (3, .sl 0 3 0 y34)], [(0, some ⟨88, .lt (.pair (.pair (.int .i64) (.sl (.int .u64))) .str) y35, true⟩)], 1, none⟩) k w28 w29 w30
  | 0, _, _, _ => rfl
  | k + 1, w28, w29, w30 => by
    unfold fewEF_l2
    exact (fewEF_s3_eq fuel k K w29 w3 w2 w30 w28).trans (congr (congr (Eq.refl (fewEF_s3 (R := Out) w29 w3 w2 w30 w28)) (funext fun a39 => funext fun a40 => funext fun a41 => fewEF_l2_eq fuel w2 w3 K k a39 a40 a41)) (rfl))
noncomputable def fewEF_s2 {R : Type} (w3 : Int) (w2 : List ((Int × List Int) × ByteArray)) (c0 : Nat → Int → (List ((Int × List Int) × ByteArray)) → Option R) (c1 : Option R) : Option R :=
  br (decide (0 < w3))
    (bnd (ix w2 0) fun e21 =>
    bnd (upTo (min ((e21.1.2.length : Nat) : Int) 3) e21.1.2.length) fun j22 =>
    bnd (upTo (min ((e21.2.size : Nat) : Int) 66) e21.2.size) fun j23 =>
    c0 1 1 ([((e21.1.1, ((e21.1.2.drop 0).take (j22 - 0))), (e21.2.extract 0 j23))]))
    (c1)
theorem fewEF_s2_eq (fuel : Nat) (k : Nat) (K : Ex → St → Option Out) (w3 : Int) (w2 : List ((Int × List Int) × ByteArray)) : lpN (sub (bodyOf Tryd.prog 47) [1, 1, 0, 1, 0, 0]) (fnX Tryd.prog mode11 T_refPSame fuel 41 0) 1099511627788 [2, 3, 10, 11, 12] (k + 1) ⟨[(2, .s (.slice none 0 0)), (3, .s (.slice none 0 0)), (10, .lt (.pair (.pair (.int .i64) (.sl (.int .u64))) .str) w2), (11, .s (.int .i64 w3)), (12, .s (.int .i64 0))], [], 0, none⟩ K = fewEF_s2 w3 w2 (fun (a44 : Nat) (a45 : Int) (a46 : List ((Int × List Int) × ByteArray)) => lpN (sub (bodyOf Tryd.prog 47) [1, 1, 0, 1, 0, 0]) (fnX Tryd.prog mode11 T_refPSame fuel 41 0) 1099511627788 [2, 3, 10, 11, 12] k ⟨[(2, .s (.slice none 0 0)), (3, .sl 0 3 0 a44), (10, .lt (.pair (.pair (.int .i64) (.sl (.int .u64))) .str) w2), (11, .s (.int .i64 w3)), (12, .s (.int .i64 a45))], [(0, some ⟨88, .lt (.pair (.pair (.int .i64) (.sl (.int .u64))) .str) a46, true⟩)], 1, none⟩ K) (K (.exit 0) ⟨[(2, .s (.slice none 0 0)), (3, .s (.slice none 0 0))], [], 0, none⟩) := by kernel_rfl
noncomputable def fewEF_l1 {R : Type} (fuel : Nat)  (k0 : Nat → (List ((Int × List Int) × ByteArray)) → Option R) (k1 : Option R) : Nat → (List ((Int × List Int) × ByteArray)) → Int → Option R
  | 0, _, _ => none
  | k + 1, w2, w3 =>
    (fewEF_s2 w3 w2 (fun (a44 : Nat) (a45 : Int) (a46 : List ((Int × List Int) × ByteArray)) => (fewEF_l2 fuel w2 w3 (fun (x47 : Nat) (x48 : List ((Int × List Int) × ByteArray)) => k0 x47 x48) k a44 a45 a46)) (k1))
theorem fewEF_l1_eq (fuel : Nat)  (K : Ex → St → Option Out) : ∀ (k : Nat) (w2 : List ((Int × List Int) × ByteArray)) (w3 : Int), lpN (sub (bodyOf Tryd.prog 47) [1, 1, 0, 1, 0, 0]) (fnX Tryd.prog mode11 T_refPSame fuel 41 0) 1099511627788 [2, 3, 10, 11, 12] k ⟨[(2, .s (.slice none 0 0)), (3, .s (.slice none 0 0)), (10, .lt (.pair (.pair (.int .i64) (.sl (.int .u64))) .str) w2), (11, .s (.int .i64 w3)), (12, .s (.int .i64 0))], [], 0, none⟩ K = fewEF_l1 fuel  (fun (y19 : Nat) (y20 : List ((Int × List Int) × ByteArray)) => K (.exit 0) ⟨[(2, .s (.slice none 0 0)), (3, .sl 0 3 0 y19)], [(0, some ⟨88, .lt (.pair (.pair (.int .i64) (.sl (.int .u64))) .str) y20, true⟩)], 1, none⟩) (K (.exit 0) ⟨[(2, .s (.slice none 0 0)), (3, .s (.slice none 0 0))], [], 0, none⟩) k w2 w3
  | 0, _, _ => rfl
  | k + 1, w2, w3 => by
    unfold fewEF_l1
    exact (fewEF_s2_eq fuel k K w3 w2).trans (congr (congr (Eq.refl (fewEF_s2 (R := Out) w3 w2)) (funext fun a44 => funext fun a45 => funext fun a46 => fewEF_l2_eq fuel w2 w3 K k a44 a45 a46)) (rfl))
noncomputable def fewEF_s4 {R : Type} (x52 : List ((Int × List Int) × ByteArray)) (x51 : Nat) (c0 : (List ((Int × List Int) × ByteArray)) → Option R) : Option R :=
  c0 ((x52.drop 0).take x51)
theorem fewEF_s4_eq (fuel : Nat)  (x52 : List ((Int × List Int) × ByteArray)) (x51 : Nat) : (kont (fnX Tryd.prog mode11 T_refPSame fuel 41 0) (bodyOf Tryd.prog 47) [1, 1, 0, 1, 0] 4 (endK Tryd.prog 0 0 47)) (.exit 0) ⟨[(2, .s (.slice none 0 0)), (3, .sl 0 3 0 x51)], [(0, some ⟨88, .lt (.pair (.pair (.int .i64) (.sl (.int .u64))) .str) x52, true⟩)], 1, none⟩ = fewEF_s4 x52 x51 (fun (a53 : List ((Int × List Int) × ByteArray)) => some (.lt (.pair (.pair (.int .i64) (.sl (.int .u64))) .str) a53, [])) := by kernel_rfl
noncomputable def fewEF_s5 {R : Type}  (c0 : Option R) : Option R :=
  c0
theorem fewEF_s5_eq (fuel : Nat)   : (kont (fnX Tryd.prog mode11 T_refPSame fuel 41 0) (bodyOf Tryd.prog 47) [1, 1, 0, 1, 0] 4 (endK Tryd.prog 0 0 47)) (.exit 0) ⟨[(2, .s (.slice none 0 0)), (3, .s (.slice none 0 0))], [], 0, none⟩ = fewEF_s5  (some (.s (.slice none 0 0), [])) := by kernel_rfl
noncomputable def fewEF_s1 {R : Type} (r : List ((Int × List Int) × ByteArray)) (c0 : (List ((Int × List Int) × ByteArray)) → Int → Option R) : Option R :=
  bnd (upTo (min ((r.length : Nat) : Int) 66) r.length) fun j1 =>
  c0 ((r.drop 0).take (j1 - 0)) ((((r.drop 0).take (j1 - 0)).length : Nat) : Int)
theorem fewEF_s1_eq (fuel : Nat)  (r : List ((Int × List Int) × ByteArray)) : callN Tryd.prog mode11 T_refPSame fuel 47 [.lt (.pair (.pair (.int .i64) (.sl (.int .u64))) .str) r] [] = fewEF_s1 r (fun (a49 : List ((Int × List Int) × ByteArray)) (a50 : Int) => lpN (sub (bodyOf Tryd.prog 47) [1, 1, 0, 1, 0, 0]) (fnX Tryd.prog mode11 T_refPSame fuel 41 0) 1099511627788 [2, 3, 10, 11, 12] fuel ⟨[(2, .s (.slice none 0 0)), (3, .s (.slice none 0 0)), (10, .lt (.pair (.pair (.int .i64) (.sl (.int .u64))) .str) a49), (11, .s (.int .i64 a50)), (12, .s (.int .i64 0))], [], 0, none⟩ (kont (fnX Tryd.prog mode11 T_refPSame fuel 41 0) (bodyOf Tryd.prog 47) [1, 1, 0, 1, 0] 4 (endK Tryd.prog 0 0 47))) := by kernel_rfl
noncomputable def fewEF {R : Type} (fuel : Nat) (r : List ((Int × List Int) × ByteArray)) (r0 : (List ((Int × List Int) × ByteArray)) → Option R) (r1 : Option R) : Option R :=
  (fewEF_s1 r (fun (a49 : List ((Int × List Int) × ByteArray)) (a50 : Int) => (fewEF_l1 fuel (fun (x51 : Nat) (x52 : List ((Int × List Int) × ByteArray)) => (fewEF_s4 x52 x51 (fun (a53 : List ((Int × List Int) × ByteArray)) => r0 a53))) ((fewEF_s5 (r1))) fuel a49 a50)))
theorem fewEF_eq (fuel : Nat) (r : List ((Int × List Int) × ByteArray)) : callN Tryd.prog mode11 T_refPSame fuel 47 [.lt (.pair (.pair (.int .i64) (.sl (.int .u64))) .str) r] [] = fewEF fuel r (fun (z0 : List ((Int × List Int) × ByteArray)) => some (.lt (.pair (.pair (.int .i64) (.sl (.int .u64))) .str) z0, [])) (some (.s (.slice none 0 0), [])) := by
  unfold fewEF
  exact (fewEF_s1_eq fuel  r).trans (congr (Eq.refl (fewEF_s1 (R := Out) r)) (funext fun a49 => funext fun a50 => (fewEF_l1_eq fuel  (kont (fnX Tryd.prog mode11 T_refPSame fuel 41 0) (bodyOf Tryd.prog 47) [1, 1, 0, 1, 0] 4 (endK Tryd.prog 0 0 47)) fuel a49 a50).trans (congrFun (congrFun (congrFun (congr (congr (Eq.refl (fewEF_l1 (R := Out) fuel )) (funext fun x51 => funext fun x52 => (fewEF_s4_eq fuel  x52 x51))) ((fewEF_s5_eq fuel  ))) fuel) a49) a50)))
theorem few_Esnoc {r : List Eqn} {j : Nat} (h : j < (r.take 66).length) : ((r.take 66).take j).map cutE ++ [cutE ((r.take 66)[j])] = ((r.take 66).take (j + 1)).map cutE := by
  rw [List.take_succ_eq_append_getElem h, List.map_append]; rfl
theorem fewE_more {R : Type} (fuel : Nat) (r : List Eqn) (k0 : Nat → List Eqn → Option R) : ∀ (k j : Nat), j ≤ (r.take 66).length → (r.take 66).length < j + k → fewEF_l2 fuel (r.take 66) ((r.take 66).length : Int) k0 k j (j : Int) (((r.take 66).take j).map cutE) = k0 (fewES r).length (fewES r)
  | 0, j, h1, h2 => by omega
  | k + 1, j, h1, h2 => by
    have hx : (r.take 66).length ≤ 66 := by rw [List.length_take]; omega
    have hj : (((r.take 66).take j).map cutE).length = j := by rw [List.length_map, List.length_take]; omega
    unfold fewEF_l2 fewEF_s3
    rw [br_if]
    by_cases hc : j < (r.take 66).length
    · have hj1 : (((r.take 66).take (j + 1)).map cutE).length = j + 1 := by rw [List.length_map, List.length_take]; omega
      have e1 : upTo (min ((((r.take 66)[j]).1.2.length : Nat) : Int) 3) ((r.take 66)[j]).1.2.length = some (min ((r.take 66)[j]).1.2.length 3) := up_min _ 3
      have e2 : upTo (min ((((r.take 66)[j]).2.size : Nat) : Int) 66) ((r.take 66)[j]).2.size = some (min ((r.take 66)[j]).2.size 66) := up_min _ 66
      rw [if_pos (by simpa using hc), bnd_of ((ix_nat _ j).trans (List.getElem?_eq_getElem hc)), bnd_of e1, bnd_of e2, grd_of (by rw [hj]; exact beq_self j), grd_of (okN_of (by omega) (by omega)), cut_e, few_Esnoc hc, hj1, wrap_i64 (by omega) (by omega), show (j : Int) + 1 = ((j + 1 : Nat) : Int) by omega]
      exact fewE_more fuel r k0 k (j + 1) (by omega) (by omega)
    · have e : j = (r.take 66).length := by omega
      rw [if_neg (by simp; simp at hc; omega)]
      have e2 : ((r.take 66).take j).map cutE = fewES r := by rw [e, List.take_length, few_E]
      rw [e2] at hj ⊢
      rw [hj]
theorem few_up (r : List Eqn) : upTo (min ((r.length : Nat) : Int) 66) r.length = some (min r.length 66) ∧ (r.drop 0).take (min r.length 66 - 0) = r.take 66 := by
  refine ⟨up_min r.length 66, ?_⟩
  rw [List.drop_zero, Nat.sub_zero]
  by_cases h : r.length ≤ 66
  · rw [Nat.min_eq_left h, List.take_length, List.take_of_length_le h]
  · rw [Nat.min_eq_right (by omega)]
theorem fewE_fact (r : List ((Int × List Int) × ByteArray)) : Fact Tryd.prog gTab 47 [.lt (.pair (.pair (.int .i64) (.sl (.int .u64))) .str) r] [] (.lt (.pair (.pair (.int .i64) (.sl (.int .u64))) .str) ((fewES r) : List ((Int × List Int) × ByteArray)), []) := by
  obtain ⟨e1, e2⟩ := few_up r
  cases hl : r.take 66 with
  | nil =>
    have e3 : fewES r = [] := by rw [few_E, hl]; rfl
    rw [e3]
    refine Fact.out (v := .s (.slice none 0 0)) (bs' := []) ?_ (fun _ _ _ x h => RV_nil_sl (s := .pair (.pair (.int .i64) (.sl (.int .u64))) .str) h)
    refine callN_fact hN hM T_refPSame_ok (n := 69) (mode := mode11) ?_
    rw [fewEF_eq]
    unfold fewEF fewEF_s1
    rw [bnd_of e1, e2, hl]
    rfl
  | cons s t =>
    have hx : (r.take 66).length ≤ 66 := by rw [List.length_take]; omega
    have hc : 0 < (r.take 66).length := by rw [hl]; simp
    refine callN_fact hN hM T_refPSame_ok (n := 69 + 1) (mode := mode11) ?_
    rw [fewEF_eq]
    unfold fewEF fewEF_s1
    rw [bnd_of e1, e2]
    unfold fewEF_l1 fewEF_s2
    dsimp only
    have e0 : ix (r.take 66) 0 = some ((r.take 66)[0]) := (ix_nat _ 0).trans (List.getElem?_eq_getElem hc)
    have e3 : upTo (min ((((r.take 66)[0]).1.2.length : Nat) : Int) 3) ((r.take 66)[0]).1.2.length = some (min ((r.take 66)[0]).1.2.length 3) := up_min _ 3
    have e5 : upTo (min ((((r.take 66)[0]).2.size : Nat) : Int) 66) ((r.take 66)[0]).2.size = some (min ((r.take 66)[0]).2.size 66) := up_min _ 66
    have e4 : [cutE ((r.take 66)[0])] = ((r.take 66).take 1).map cutE := (few_Esnoc hc).symm ▸ rfl
    rw [br_if, if_pos (by simpa using hc), bnd_of e0, bnd_of e3, bnd_of e5, cut_e, e4]
    have := fewE_more (R := Out) (69 + 1) r
    rw [show (1 : Int) = ((1 : Nat) : Int) from rfl, this _ 69 1 (by omega) (by omega)]
    unfold fewEF_s4
    rw [List.drop_zero, List.take_length]
noncomputable def fewE_ent : List V → List Blk → Option (Bool × Out)
  | [w0], [] => (asSl (.pair (.pair (.int .i64) (.sl (.int .u64))) .str) w0).bind fun r => some (true, (.lt (.pair (.pair (.int .i64) (.sl (.int .u64))) .str) ((fewES r) : List ((Int × List Int) × ByteArray)), []))
  | _, _ => none
theorem fewE_ok : ∀ args bs out, fewE_ent args bs = some (true, out) → Fact Tryd.prog gTab 47 args bs out := by
  intro args bs out h
  unfold fewE_ent at h
  split at h
  · rename_i w0
    obtain ⟨r, h_r, h⟩ := Option.bind_eq_some_iff.1 h
    simp only [Option.some.injEq, Prod.mk.injEq] at h
    obtain ⟨_, rfl⟩ := h
    exact (fewE_fact r).args (fun _ _ _ => fun _ h => RVs_two (fun _ h => RV_sl (s := (.pair (.pair (.int .i64) (.sl (.int .u64))) .str)) h_r h) (fun _ h => h) h)
  · cases h
noncomputable def T_fewE : Tbl := Tbl.cons 47 fewE_ent T_refPSame
theorem T_fewE_ok : CallOk Tryd.prog gTab T_fewE := cons_ok T_refPSame_ok fewE_ok
/-! downpour/downpourlaw15.alive -/
noncomputable def paliveF_s1 {R : Type}  (c0 : Bool → Option R) : Option R :=
  grd (okE ([((2, [3]), (⟨#[98]⟩ : ByteArray)), ((2, [1]), (⟨#[97]⟩ : ByteArray))]) && decide (1 ≤ ([((2, [3]), (⟨#[98]⟩ : ByteArray)), ((2, [1]), (⟨#[97]⟩ : ByteArray))]).length) && decide (([((2, [3]), (⟨#[98]⟩ : ByteArray)), ((2, [1]), (⟨#[97]⟩ : ByteArray))]).length ≤ 1000)) <|
  br (((if mayB 2 ([((2, [3]), (⟨#[98]⟩ : ByteArray)), ((2, [1]), (⟨#[97]⟩ : ByteArray))]) = true then 0 else 1) : Int) == 0)
    (br (((((pAt 2 ([((2, [3]), (⟨#[98]⟩ : ByteArray)), ((2, [1]), (⟨#[97]⟩ : ByteArray))])).length : Nat) : Int) : Int) == 2)
      (br (((((pTold 2 ([((2, [3]), (⟨#[98]⟩ : ByteArray)), ((2, [1]), (⟨#[97]⟩ : ByteArray))])).length : Nat) : Int) : Int) == 2)
        (bnd (ix (pTold 2 ([((2, [3]), (⟨#[98]⟩ : ByteArray)), ((2, [1]), (⟨#[97]⟩ : ByteArray))])) 0) fun e1 =>
        br (eqS e1 (⟨#[97]⟩ : ByteArray))
          (bnd (ix (pTold 2 ([((2, [3]), (⟨#[98]⟩ : ByteArray)), ((2, [1]), (⟨#[97]⟩ : ByteArray))])) 1) fun e2 =>
          c0 (eqS e2 (⟨#[3]⟩ : ByteArray)))
          (c0 false))
        (c0 false))
      (c0 false))
    (c0 false)
theorem paliveF_s1_eq (fuel : Nat)   : callN Tryd.prog mode11 T_fewE fuel 50 [] [] = paliveF_s1  (fun (a3 : Bool) => some (.s (.bool a3), [])) := by kernel_rfl
noncomputable def paliveF {R : Type} (fuel : Nat)  (r0 : Bool → Option R) : Option R :=
  (paliveF_s1 (fun (a3 : Bool) => r0 a3))
theorem paliveF_eq (fuel : Nat)  : callN Tryd.prog mode11 T_fewE fuel 50 [] [] = paliveF fuel  (fun (z0 : Bool) => some (.s (.bool z0), [])) := by
  unfold paliveF
  exact (paliveF_s1_eq fuel  )
theorem al1 : oneS 2 [3] = -1 := by
  rw [oneS_eq]; unfold oneI; rw [rtS_eq, plS_eq]; unfold rtI plI; rw [nw_eq]; decide +kernel
theorem al2 : oneS 2 [1] = 0 := by
  rw [oneS_eq]; unfold oneI; rw [rtS_eq, plS_eq]; unfold rtI plI; rw [nw_eq]; decide +kernel
theorem al3 : oneS 2 [2] = 1 := by
  rw [oneS_eq]; unfold oneI; rw [rtS_eq, plS_eq]; unfold rtI plI; rw [nw_eq]; decide +kernel
theorem al4 : oneS 2 [0] = -1 := by
  rw [oneS_eq]; unfold oneI; rw [rtS_eq, plS_eq]; unfold rtI plI; rw [nw_eq]; decide +kernel
theorem al5 : outE ((2, [3]), (⟨#[98]⟩ : ByteArray)) 0 (⟨#[97]⟩ : ByteArray) = ((2, [2]), (⟨#[3]⟩ : ByteArray)) := by
  rw [outE_eq]; unfold outI
  rw [getS_eq, xorN_eq, xorW_eq]; unfold getI xorNI xorWI
  rw [xorE_eq, ofOk_eq, ofS_eq, xorT_eq]; unfold xorEI okOfI ofI xorTI
  rw [rtS_eq, bok_eq, xb_eq]; unfold rtI bokI xbI
  rw [nw_eq]
  decide +kernel
theorem al6 : outE ((2, [1]), (⟨#[97]⟩ : ByteArray)) 0 (⟨#[97]⟩ : ByteArray) = ((2, [0]), (⟨#[0]⟩ : ByteArray)) := by
  rw [outE_eq]; unfold outI
  rw [getS_eq, xorN_eq, xorW_eq]; unfold getI xorNI xorWI
  rw [xorE_eq, ofOk_eq, ofS_eq, xorT_eq]; unfold xorEI okOfI ofI xorTI
  rw [rtS_eq, bok_eq, xb_eq]; unfold rtI bokI xbI
  rw [nw_eq]
  decide +kernel
theorem al7 : outE ((2, [2]), (⟨#[3]⟩ : ByteArray)) 1 (⟨#[3]⟩ : ByteArray) = ((2, [0]), (⟨#[0]⟩ : ByteArray)) := by
  rw [outE_eq]; unfold outI
  rw [getS_eq, xorN_eq, xorW_eq]; unfold getI xorNI xorWI
  rw [xorE_eq, ofOk_eq, ofS_eq, xorT_eq]; unfold xorEI okOfI ofI xorTI
  rw [rtS_eq, bok_eq, xb_eq]; unfold rtI bokI xbI
  rw [nw_eq]
  decide +kernel
theorem al8 : outE ((2, [0]), (⟨#[0]⟩ : ByteArray)) 1 (⟨#[3]⟩ : ByteArray) = ((2, [0]), (⟨#[0]⟩ : ByteArray)) := by
  rw [outE_eq]; unfold outI
  rw [getS_eq, xorN_eq, xorW_eq]; unfold getI xorNI xorWI
  rw [xorE_eq, ofOk_eq, ofS_eq, xorT_eq]; unfold xorEI okOfI ofI xorTI
  rw [rtS_eq, bok_eq, xb_eq]; unfold rtI bokI xbI
  rw [nw_eq]
  decide +kernel
abbrev q0 : List Eqn := [((2, [3]), (⟨#[98]⟩ : ByteArray)), ((2, [1]), (⟨#[97]⟩ : ByteArray))]
abbrev q1 : List Eqn := [((2, [2]), (⟨#[3]⟩ : ByteArray)), ((2, [0]), (⟨#[0]⟩ : ByteArray))]
abbrev q2 : List Eqn := [((2, [0]), (⟨#[0]⟩ : ByteArray)), ((2, [0]), (⟨#[0]⟩ : ByteArray))]
theorem st0 : stepS q0 = 1 := by rw [stepS_eq]; simp [stepI, stepFrom, al1, al2]
theorem st1 : stepS q1 = 0 := by rw [stepS_eq]; simp [stepI, stepFrom, al3]
theorem st2 : stepS q2 = -1 := by rw [stepS_eq]; simp [stepI, stepFrom, al4]
theorem al_end : pEnd 2 q0 = (q2, [(⟨#[97]⟩ : ByteArray), (⟨#[3]⟩ : ByteArray)], [1, 1]) := by
  rw [pEnd_eq]; unfold pEndI
  rw [show (64 : Nat) = 62 + 1 + 1 from rfl, peelN, st0, if_neg (by decide)]
  have e0 : q0.getD (1 : Int).toNat noE = ((2, [1]), (⟨#[97]⟩ : ByteArray)) := rfl
  have m0 : (q0.map fun e => outE e 0 (⟨#[97]⟩ : ByteArray)) = q1 := by simp [al5, al6]
  rw [e0]
  dsimp only
  rw [al2, m0, peelN, st1, if_neg (by decide)]
  have e1 : q1.getD (0 : Int).toNat noE = ((2, [2]), (⟨#[3]⟩ : ByteArray)) := rfl
  have m1 : (q1.map fun e => outE e 1 (⟨#[3]⟩ : ByteArray)) = q2 := by simp [al7, al8]
  rw [e1]
  dsimp only
  rw [al3, m1, peel_stop (by rw [st2]; decide)]
  rfl
theorem al_may : mayB 2 q0 = true := by
  rw [mayB_eq]; unfold mayI; rw [rtS_eq]; unfold rtI; rw [nw_eq]; decide +kernel
theorem al_ok : okE q0 = true := by
  rw [okE_eq]; unfold okEI; rw [okW_eq]; unfold okI; decide +kernel
theorem palive_fact  : Fact Tryd.prog gTab 50 [] [] (.s (.bool true), []) := by
  refine callN_fact hN hM T_fewE_ok (n := 0) (mode := mode11) ?_
  rw [paliveF_eq]
  unfold paliveF paliveF_s1
  have hA : pAt 2 q0 = [0, 1] := by rw [pAt_eq]; unfold pAtI; rw [if_pos al_may, al_end]; rfl
  have hT : pTold 2 q0 = [(⟨#[97]⟩ : ByteArray), (⟨#[3]⟩ : ByteArray)] := by rw [pTold_eq]; unfold pToldI; rw [if_pos al_may, al_end]; rfl
  rw [al_ok, grd_of (by rfl), if_pos al_may, hA, hT]
  have e1 : eqS (⟨#[97]⟩ : ByteArray) (⟨#[97]⟩ : ByteArray) = true := eqS_iff.2 rfl
  have e2 : eqS (⟨#[3]⟩ : ByteArray) (⟨#[3]⟩ : ByteArray) = true := eqS_iff.2 rfl
  have i0 : ix [(⟨#[97]⟩ : ByteArray), (⟨#[3]⟩ : ByteArray)] 0 = some (⟨#[97]⟩ : ByteArray) := rfl
  have i1 : ix [(⟨#[97]⟩ : ByteArray), (⟨#[3]⟩ : ByteArray)] 1 = some (⟨#[3]⟩ : ByteArray) := rfl
  rw [bnd_of i0, e1, br_tt, bnd_of i1, e2]
  rfl
noncomputable def palive_ent : List V → List Blk → Option (Bool × Out)
  | [], [] => some (true, (.s (.bool true), []))
  | _, _ => none
theorem palive_ok : ∀ args bs out, palive_ent args bs = some (true, out) → Fact Tryd.prog gTab 50 args bs out := by
  intro args bs out h
  unfold palive_ent at h
  split at h
  · simp only [Option.some.injEq, Prod.mk.injEq] at h
    obtain ⟨_, rfl⟩ := h
    exact palive_fact 
  · cases h
noncomputable def T_palive : Tbl := Tbl.cons 50 palive_ent T_fewE
theorem T_palive_ok : CallOk Tryd.prog gTab T_palive := cons_ok T_fewE_ok palive_ok
noncomputable def lawPAF_s1 {R : Type} (r : List ((Int × List Int) × ByteArray)) (z : Int) (c0 : Bool → Option R) : Option R :=
  grd (okE (fewES r) && decide (1 ≤ (fewES r).length) && decide ((fewES r).length ≤ 1000)) <|
  grd (okE (fewES r) && decide (List.length (α := Eqn) (fewES r) ≤ 1000)) <|
  br (!(mayB z (fewES r)))
    (br (((if mayB z (fewES r) = true then 0 else 1) : Int) == 1)
      (grd (decide (List.length (α := Int) (pAt z (fewES r)) ≤ 1000000) && decide (List.length (α := ByteArray) (pTold z (fewES r)) ≤ 1000000) && shE (pLeft z (fewES r))) <|
      c0 (eqS_li (pAt z (fewES r)) ([]) && (eqTS (pTold z (fewES r)) ([]) && eqE (pLeft z (fewES r)) ([]))))
      (c0 false))
    (br (((if mayB z (fewES r) = true then 0 else 1) : Int) == 0)
      (grd (mayB (kOf (fewES r)) (fewES r) && okE (fewES r)) <|
      grd (decide (List.length (α := Int) (pAt z (fewES r)) ≤ 1000000) && decide (List.length (α := ByteArray) (pTold z (fewES r)) ≤ 1000000) && shE (pLeft z (fewES r))) <|
      c0 (eqS_li (pAt z (fewES r)) (pAt (kOf (fewES r)) (fewES r)) && (eqTS (pTold z (fewES r)) (pTold (kOf (fewES r)) (fewES r)) && eqE (pLeft z (fewES r)) (pLeft (kOf (fewES r)) (fewES r)))))
      (c0 false))
theorem lawPAF_s1_eq (fuel : Nat)  (r : List ((Int × List Int) × ByteArray)) (z : Int) : callN Tryd.prog mode11 T_palive fuel 10 [.s (.int .i64 z), .lt (.pair (.pair (.int .i64) (.sl (.int .u64))) .str) r] [] = lawPAF_s1 r z (fun (a1 : Bool) => some (.s (.bool a1), [])) := by kernel_rfl
noncomputable def lawPAF {R : Type} (fuel : Nat) (z : Int) (r : List ((Int × List Int) × ByteArray)) (r0 : Bool → Option R) : Option R :=
  (lawPAF_s1 r z (fun (a1 : Bool) => r0 a1))
theorem lawPAF_eq (fuel : Nat) (z : Int) (r : List ((Int × List Int) × ByteArray)) : callN Tryd.prog mode11 T_palive fuel 10 [.s (.int .i64 z), .lt (.pair (.pair (.int .i64) (.sl (.int .u64))) .str) r] [] = lawPAF fuel z r (fun (z0 : Bool) => some (.s (.bool z0), [])) := by
  unfold lawPAF
  exact (lawPAF_s1_eq fuel  r z)
/-! slices.Clone[[]downpour/api.Equation,downpour/api.Equation] -/
noncomputable def cloneNF_s1 {R : Type}  (c0 : Option R) : Option R :=
  c0
theorem cloneNF_s1_eq (fuel : Nat)   : callN Tryd.prog mode11 T_palive fuel 104 [.s (.slice none 0 0)] [] = cloneNF_s1  (some (.s (.slice none 0 0), [])) := by kernel_rfl
noncomputable def cloneNF {R : Type} (fuel : Nat)  (r0 : Option R) : Option R :=
  (cloneNF_s1 (r0))
theorem cloneNF_eq (fuel : Nat)  : callN Tryd.prog mode11 T_palive fuel 104 [.s (.slice none 0 0)] [] = cloneNF fuel  (some (.s (.slice none 0 0), [])) := by
  unfold cloneNF
  exact (cloneNF_s1_eq fuel  )
theorem cloneN_fact  : Fact Tryd.prog gTab 104 [.s (.slice none 0 0)] [] (.s (.slice none 0 0), []) := by
  refine callN_fact hN hM T_palive_ok (n := 0) (mode := mode11) ?_
  rw [cloneNF_eq]
  rfl
noncomputable def cloneN_ent : List V → List Blk → Option (Bool × Out)
  | [.s (.slice none 0 0)], [] => some (true, (.s (.slice none 0 0), []))
  | _, _ => none
theorem cloneN_ok : ∀ args bs out, cloneN_ent args bs = some (true, out) → Fact Tryd.prog gTab 104 args bs out := by
  intro args bs out h
  unfold cloneN_ent at h
  split at h
  · simp only [Option.some.injEq, Prod.mk.injEq] at h
    obtain ⟨_, rfl⟩ := h
    exact cloneN_fact 
  · cases h
noncomputable def T_cloneN : Tbl := Tbl.cons 104 cloneN_ent T_palive
theorem T_cloneN_ok : CallOk Tryd.prog gTab T_cloneN := cons_ok T_palive_ok cloneN_ok
/-! downpour/peel.Peel -/
noncomputable def PeelNF_s2 {R : Type} (w4 : List ByteArray) (w5 : List Int) (n2 : Nat) (n3 : Nat) (c0 : List ByteArray → List Int → Option R) : Option R :=
  grd (okE ([]) && decide (List.length (α := Eqn) ([]) ≤ 1000)) <|
  br (decide (((stepS ([])) : Int) < 0))
    (c0 w4 w5)
    (none)
theorem PeelNF_s2_eq (fuel : Nat) (k : Nat) (K : Ex → St → Option Out) (w4 : List ByteArray) (w5 : List Int) (n2 : Nat) (n3 : Nat) : lpN (sub (bodyOf Tryd.prog 106) [0, 0]) (itX Tryd.prog mode11 T_cloneN fuel 3 18 7 6 (roundK (evC (sub (bodyOf Tryd.prog 48) [1, 1, 1, 1, 0, 1, 0, 0])) (evC (sub (bodyOf Tryd.prog 48) [1, 1, 1, 1, 0, 1, 0, 1])) (fnX Tryd.prog mode11 T_cloneN fuel 145 0) #[39] 7253554917686675536617344 [(4, .ptr 0 3 0 0), (5, .s (.int .i64 0)), (7, .ptr 1 1 0 0), (8, .ptr 5 1 0 0), (38, .fn (.func 106) [.ptr 2 3 0 0] [])])) 0 [0, 1] (k + 1) ⟨[(0, .ptr 2 3 0 0), (1, .yl 6)], [(0, some ⟨79, .agg [.s (.slice none 0 0), .s (.slice none 0 0), .s (.slice none 0 0)], true⟩), (1, some ⟨145, .agg [.ptr 2 3 0 0], true⟩), (2, some ⟨147, .agg [.s (.slice none 0 0), .sl 3 1 0 n2, .sl 4 1 0 n3], true⟩), (3, some ⟨9, .ls w4, true⟩), (4, some ⟨3, .li .i64 w5, true⟩), (5, some ⟨148, .agg [.fn (.func 105) [.ptr 2 3 0 0] []], true⟩), (6, none)], 7, none⟩ K = PeelNF_s2 w4 w5 n2 n3 (fun (a8 : List ByteArray) (a9 : List Int) => K .ret ⟨[], [(0, some ⟨79, .agg [.s (.slice none 0 0), .s (.slice none 0 0), .s (.slice none 0 0)], true⟩), (1, some ⟨145, .agg [.ptr 2 3 0 0], true⟩), (2, some ⟨147, .agg [.s (.slice none 0 0), .sl 3 1 0 n2, .sl 4 1 0 n3], true⟩), (3, some ⟨9, .ls a8, true⟩), (4, some ⟨3, .li .i64 a9, true⟩), (5, some ⟨148, .agg [.fn (.func 105) [.ptr 2 3 0 0] []], true⟩), (6, none)], 7, none⟩) := by kernel_rfl
noncomputable def PeelNF_l1 {R : Type} (fuel : Nat) (n2 : Nat) (n3 : Nat) (k0 : List ByteArray → List Int → Option R) : Nat → List ByteArray → List Int → Option R
  | 0, _, _ => none
  | k + 1, w4, w5 =>
    (PeelNF_s2 w4 w5 n2 n3 (fun (a8 : List ByteArray) (a9 : List Int) => k0 a8 a9))
theorem PeelNF_l1_eq (fuel : Nat) (n2 : Nat) (n3 : Nat) (K : Ex → St → Option Out) : ∀ (k : Nat) (w4 : List ByteArray) (w5 : List Int), lpN (sub (bodyOf Tryd.prog 106) [0, 0]) (itX Tryd.prog mode11 T_cloneN fuel 3 18 7 6 (roundK (evC (sub (bodyOf Tryd.prog 48) [1, 1, 1, 1, 0, 1, 0, 0])) (evC (sub (bodyOf Tryd.prog 48) [1, 1, 1, 1, 0, 1, 0, 1])) (fnX Tryd.prog mode11 T_cloneN fuel 145 0) #[39] 7253554917686675536617344 [(4, .ptr 0 3 0 0), (5, .s (.int .i64 0)), (7, .ptr 1 1 0 0), (8, .ptr 5 1 0 0), (38, .fn (.func 106) [.ptr 2 3 0 0] [])])) 0 [0, 1] k ⟨[(0, .ptr 2 3 0 0), (1, .yl 6)], [(0, some ⟨79, .agg [.s (.slice none 0 0), .s (.slice none 0 0), .s (.slice none 0 0)], true⟩), (1, some ⟨145, .agg [.ptr 2 3 0 0], true⟩), (2, some ⟨147, .agg [.s (.slice none 0 0), .sl 3 1 0 n2, .sl 4 1 0 n3], true⟩), (3, some ⟨9, .ls w4, true⟩), (4, some ⟨3, .li .i64 w5, true⟩), (5, some ⟨148, .agg [.fn (.func 105) [.ptr 2 3 0 0] []], true⟩), (6, none)], 7, none⟩ K = PeelNF_l1 fuel n2 n3 (fun (y6 : List ByteArray) (y7 : List Int) => K .ret ⟨[], [(0, some ⟨79, .agg [.s (.slice none 0 0), .s (.slice none 0 0), .s (.slice none 0 0)], true⟩), (1, some ⟨145, .agg [.ptr 2 3 0 0], true⟩), (2, some ⟨147, .agg [.s (.slice none 0 0), .sl 3 1 0 n2, .sl 4 1 0 n3], true⟩), (3, some ⟨9, .ls y6, true⟩), (4, some ⟨3, .li .i64 y7, true⟩), (5, some ⟨148, .agg [.fn (.func 105) [.ptr 2 3 0 0] []], true⟩), (6, none)], 7, none⟩) k w4 w5
  | 0, _, _ => rfl
  | k + 1, w4, w5 => by
    unfold PeelNF_l1
    exact (PeelNF_s2_eq fuel k K w4 w5 n2 n3)
noncomputable def PeelNF_s5 {R : Type} (w78 : Int) (w38 : Int) (n3 : Nat) (x13 : List Int) (w81 : List Int) (w79 : Nat) (n2 : Nat) (x12 : List ByteArray) (w82 : List ByteArray) (w80 : Nat) (c0 : Int → Nat → Nat → List Int → List ByteArray → Option R) (c1 : Int → Nat → Nat → List Int → List ByteArray → Option R) (c2 : Nat → Nat → List Int → List ByteArray → Option R) : Option R :=
  br (decide (w78 < w38))
    (bnd (below w78 n3) fun j91 =>
    bnd (x13[(0 + j91)]?) fun e92 =>
    br (e92 == 1)
      (grd (Nat.beq w81.length w79) <|
      grd (okN (w79 + 1) 8) <|
      bnd (below w78 n2) fun j93 =>
      bnd (x12[(0 + j93)]?) fun e94 =>
      grd (Nat.beq w82.length w80) <|
      grd (okN (w80 + 1) 16) <|
      c0 (IntKind.i64.wrap (w78 + 1)) ((w81 ++ [w78]).length) ((w82 ++ [e94]).length) (w81 ++ [w78]) (w82 ++ [e94]))
      (c1 (IntKind.i64.wrap (w78 + 1)) w79 w80 w81 w82))
    (c2 w79 w80 w81 w82)
theorem PeelNF_s5_eq (fuel : Nat) (k : Nat) (K : Ex → St → Option Out) (w78 : Int) (w38 : Int) (n3 : Nat) (x13 : List Int) (w81 : List Int) (w79 : Nat) (n2 : Nat) (x12 : List ByteArray) (w82 : List ByteArray) (w80 : Nat) : lpN (sub (bodyOf Tryd.prog 48) [1, 1, 1, 1, 1, 1, 0, 1, 0, 0]) (fnX Tryd.prog mode11 T_cloneN fuel 145 0) 44601490376292058848932126031174737695482032 [4, 5, 7, 13, 86, 87, 88] (k + 1) ⟨[(4, .ptr 0 3 0 0), (5, .s (.int .i64 0)), (7, .ptr 1 1 0 0), (13, .ptr 5 3 0 0), (86, .sl 4 1 0 n3), (87, .s (.int .i64 w38)), (88, .s (.int .i64 w78))], [(0, some ⟨79, .agg [.s (.slice none 0 0), .s (.slice none 0 0), .s (.slice none 0 0)], true⟩), (1, some ⟨145, .agg [.ptr 2 3 0 0], true⟩), (2, some ⟨147, .agg [.s (.slice none 0 0), .sl 3 1 0 n2, .sl 4 1 0 n3], true⟩), (3, some ⟨9, .ls x12, true⟩), (4, some ⟨3, .li .i64 x13, true⟩), (5, some ⟨79, .agg [.sl 6 1 0 w79, .sl 7 1 0 w80, .s (.slice none 0 0)], true⟩), (6, some ⟨3, .li .i64 w81, true⟩), (7, some ⟨9, .ls w82, true⟩)], 8, none⟩ K = PeelNF_s5 w78 w38 n3 x13 w81 w79 n2 x12 w82 w80 (fun (a95 : Int) (a96 : Nat) (a97 : Nat) (a98 : List Int) (a99 : List ByteArray) => lpN (sub (bodyOf Tryd.prog 48) [1, 1, 1, 1, 1, 1, 0, 1, 0, 0]) (fnX Tryd.prog mode11 T_cloneN fuel 145 0) 44601490376292058848932126031174737695482032 [4, 5, 7, 13, 86, 87, 88] k ⟨[(4, .ptr 0 3 0 0), (5, .s (.int .i64 0)), (7, .ptr 1 1 0 0), (13, .ptr 5 3 0 0), (86, .sl 4 1 0 n3), (87, .s (.int .i64 w38)), (88, .s (.int .i64 a95))], [(0, some ⟨79, .agg [.s (.slice none 0 0), .s (.slice none 0 0), .s (.slice none 0 0)], true⟩), (1, some ⟨145, .agg [.ptr 2 3 0 0], true⟩), (2, some ⟨147, .agg [.s (.slice none 0 0), .sl 3 1 0 n2, .sl 4 1 0 n3], true⟩), (3, some ⟨9, .ls x12, true⟩), (4, some ⟨3, .li .i64 x13, true⟩), (5, some ⟨79, .agg [.sl 6 1 0 a96, .sl 7 1 0 a97, .s (.slice none 0 0)], true⟩), (6, some ⟨3, .li .i64 a98, true⟩), (7, some ⟨9, .ls a99, true⟩)], 8, none⟩ K) (fun (a100 : Int) (a101 : Nat) (a102 : Nat) (a103 : List Int) (a104 : List ByteArray) => lpN (sub (bodyOf Tryd.prog 48) [1, 1, 1, 1, 1, 1, 0, 1, 0, 0]) (fnX Tryd.prog mode11 T_cloneN fuel 145 0) 44601490376292058848932126031174737695482032 [4, 5, 7, 13, 86, 87, 88] k ⟨[(4, .ptr 0 3 0 0), (5, .s (.int .i64 0)), (7, .ptr 1 1 0 0), (13, .ptr 5 3 0 0), (86, .sl 4 1 0 n3), (87, .s (.int .i64 w38)), (88, .s (.int .i64 a100))], [(0, some ⟨79, .agg [.s (.slice none 0 0), .s (.slice none 0 0), .s (.slice none 0 0)], true⟩), (1, some ⟨145, .agg [.ptr 2 3 0 0], true⟩), (2, some ⟨147, .agg [.s (.slice none 0 0), .sl 3 1 0 n2, .sl 4 1 0 n3], true⟩), (3, some ⟨9, .ls x12, true⟩), (4, some ⟨3, .li .i64 x13, true⟩), (5, some ⟨79, .agg [.sl 6 1 0 a101, .sl 7 1 0 a102, .s (.slice none 0 0)], true⟩), (6, some ⟨3, .li .i64 a103, true⟩), (7, some ⟨9, .ls a104, true⟩)], 8, none⟩ K) (fun (a105 : Nat) (a106 : Nat) (a107 : List Int) (a108 : List ByteArray) => K (.exit 4) ⟨[(4, .ptr 0 3 0 0), (5, .s (.int .i64 0)), (7, .ptr 1 1 0 0), (13, .ptr 5 3 0 0)], [(0, some ⟨79, .agg [.s (.slice none 0 0), .s (.slice none 0 0), .s (.slice none 0 0)], true⟩), (1, some ⟨145, .agg [.ptr 2 3 0 0], true⟩), (2, some ⟨147, .agg [.s (.slice none 0 0), .sl 3 1 0 n2, .sl 4 1 0 n3], true⟩), (3, some ⟨9, .ls x12, true⟩), (4, some ⟨3, .li .i64 x13, true⟩), (5, some ⟨79, .agg [.sl 6 1 0 a105, .sl 7 1 0 a106, .s (.slice none 0 0)], true⟩), (6, some ⟨3, .li .i64 a107, true⟩), (7, some ⟨9, .ls a108, true⟩)], 8, none⟩) := by kernel_rfl
noncomputable def PeelNF_l3 {R : Type} (fuel : Nat) (n3 : Nat) (w38 : Int) (n2 : Nat) (x12 : List ByteArray) (x13 : List Int) (k0 : Nat → Nat → List Int → List ByteArray → Option R) : Nat → Int → Nat → Nat → List Int → List ByteArray → Option R
  | 0, _, _, _, _, _ => none
  | k + 1, w78, w79, w80, w81, w82 =>
    (PeelNF_s5 w78 w38 n3 x13 w81 w79 n2 x12 w82 w80 (fun (a95 : Int) (a96 : Nat) (a97 : Nat) (a98 : List Int) (a99 : List ByteArray) => ( PeelNF_l3 fuel n3 w38 n2 x12 x13 k0 k a95 a96 a97 a98 a99 )) (fun (a100 : Int) (a101 : Nat) (a102 : Nat) (a103 : List Int) (a104 : List ByteArray) => ( PeelNF_l3 fuel n3 w38 n2 x12 x13 k0 k a100 a101 a102 a103 a104 )) (fun (a105 : Nat) (a106 : Nat) (a107 : List Int) (a108 : List ByteArray) => k0 a105 a106 a107 a108))
theorem PeelNF_l3_eq (fuel : Nat) (n3 : Nat) (w38 : Int) (n2 : Nat) (x12 : List ByteArray) (x13 : List Int) (K : Ex → St → Option Out) : ∀ (k : Nat) (w78 : Int) (w79 : Nat) (w80 : Nat) (w81 : List Int) (w82 : List ByteArray), lpN (sub (bodyOf Tryd.prog 48) [1, 1, 1, 1, 1, 1, 0, 1, 0, 0]) (fnX Tryd.prog mode11 T_cloneN fuel 145 0) 44601490376292058848932126031174737695482032 [4, 5, 7, 13, 86, 87, 88] k ⟨[(4, .ptr 0 3 0 0), (5, .s (.int .i64 0)), (7, .ptr 1 1 0 0), (13, .ptr 5 3 0 0), (86, .sl 4 1 0 n3), (87, .s (.int .i64 w38)), (88, .s (.int .i64 w78))], [(0, some ⟨79, .agg [.s (.slice none 0 0), .s (.slice none 0 0), .s (.slice none 0 0)], true⟩), (1, some ⟨145, .agg [.ptr 2 3 0 0], true⟩), (2, some ⟨147, .agg [.s (.slice none 0 0), .sl 3 1 0 n2, .sl 4 1 0 n3], true⟩), (3, some ⟨9, .ls x12, true⟩), (4, some ⟨3, .li .i64 x13, true⟩), (5, some ⟨79, .agg [.sl 6 1 0 w79, .sl 7 1 0 w80, .s (.slice none 0 0)], true⟩), (6, some ⟨3, .li .i64 w81, true⟩), (7, some ⟨9, .ls w82, true⟩)], 8, none⟩ K = PeelNF_l3 fuel n3 w38 n2 x12 x13 (fun (y87 : Nat) (y88 : Nat) (y89 : List Int) (y90 : List ByteArray) => K (.exit 4) ⟨[(4, .ptr 0 3 0 0), (5, .s (.int .i64 0)), (7, .ptr 1 1 0 0), (13, .ptr 5 3 0 0)], [(0, some ⟨79, .agg [.s (.slice none 0 0), .s (.slice none 0 0), .s (.slice none 0 0)], true⟩), (1, some ⟨145, .agg [.ptr 2 3 0 0], true⟩), (2, some ⟨147, .agg [.s (.slice none 0 0), .sl 3 1 0 n2, .sl 4 1 0 n3], true⟩), (3, some ⟨9, .ls x12, true⟩), (4, some ⟨3, .li .i64 x13, true⟩), (5, some ⟨79, .agg [.sl 6 1 0 y87, .sl 7 1 0 y88, .s (.slice none 0 0)], true⟩), (6, some ⟨3, .li .i64 y89, true⟩), (7, some ⟨9, .ls y90, true⟩)], 8, none⟩) k w78 w79 w80 w81 w82
  | 0, _, _, _, _, _ => rfl
  | k + 1, w78, w79, w80, w81, w82 => by
    unfold PeelNF_l3
    exact (PeelNF_s5_eq fuel k K w78 w38 n3 x13 w81 w79 n2 x12 w82 w80).trans (congr (congr (congr (Eq.refl (PeelNF_s5 (R := Out) w78 w38 n3 x13 w81 w79 n2 x12 w82 w80)) (funext fun a95 => funext fun a96 => funext fun a97 => funext fun a98 => funext fun a99 => PeelNF_l3_eq fuel n3 w38 n2 x12 x13 K k a95 a96 a97 a98 a99)) (funext fun a100 => funext fun a101 => funext fun a102 => funext fun a103 => funext fun a104 => PeelNF_l3_eq fuel n3 w38 n2 x12 x13 K k a100 a101 a102 a103 a104)) (rfl))
noncomputable def PeelNF_s4 {R : Type} (w37 : Int) (w38 : Int) (n3 : Nat) (x13 : List Int) (n2 : Nat) (x12 : List ByteArray) (c0 : Int → Nat → Nat → List Int → List ByteArray → Option R) (c1 : Int → Int → Option R) (c2 : Option R) : Option R :=
  br (decide (w37 < w38))
    (bnd (below w37 n3) fun j67 =>
    bnd (x13[(0 + j67)]?) fun e68 =>
    br (e68 == 1)
      (bnd (below w37 n2) fun j69 =>
      bnd (x12[(0 + j69)]?) fun e70 =>
      c0 (IntKind.i64.wrap (w37 + 1)) 1 1 ([w37]) ([e70]))
      (c1 w38 (IntKind.i64.wrap (w37 + 1))))
    (c2)
theorem PeelNF_s4_eq (fuel : Nat) (k : Nat) (K : Ex → St → Option Out) (w37 : Int) (w38 : Int) (n3 : Nat) (x13 : List Int) (n2 : Nat) (x12 : List ByteArray) : lpN (sub (bodyOf Tryd.prog 48) [1, 1, 1, 1, 1, 1, 0, 1, 0, 0]) (fnX Tryd.prog mode11 T_cloneN fuel 145 0) 44601490376292058848932126031174737695482032 [4, 5, 7, 13, 86, 87, 88] (k + 1) ⟨[(4, .ptr 0 3 0 0), (5, .s (.int .i64 0)), (7, .ptr 1 1 0 0), (13, .ptr 5 3 0 0), (86, .sl 4 1 0 n3), (87, .s (.int .i64 w38)), (88, .s (.int .i64 w37))], [(0, some ⟨79, .agg [.s (.slice none 0 0), .s (.slice none 0 0), .s (.slice none 0 0)], true⟩), (1, some ⟨145, .agg [.ptr 2 3 0 0], true⟩), (2, some ⟨147, .agg [.s (.slice none 0 0), .sl 3 1 0 n2, .sl 4 1 0 n3], true⟩), (3, some ⟨9, .ls x12, true⟩), (4, some ⟨3, .li .i64 x13, true⟩), (5, some ⟨79, .agg [.s (.slice none 0 0), .s (.slice none 0 0), .s (.slice none 0 0)], true⟩)], 6, none⟩ K = PeelNF_s4 w37 w38 n3 x13 n2 x12 (fun (a109 : Int) (a110 : Nat) (a111 : Nat) (a112 : List Int) (a113 : List ByteArray) => lpN (sub (bodyOf Tryd.prog 48) [1, 1, 1, 1, 1, 1, 0, 1, 0, 0]) (fnX Tryd.prog mode11 T_cloneN fuel 145 0) 44601490376292058848932126031174737695482032 [4, 5, 7, 13, 86, 87, 88] k ⟨[(4, .ptr 0 3 0 0), (5, .s (.int .i64 0)), (7, .ptr 1 1 0 0), (13, .ptr 5 3 0 0), (86, .sl 4 1 0 n3), (87, .s (.int .i64 w38)), (88, .s (.int .i64 a109))], [(0, some ⟨79, .agg [.s (.slice none 0 0), .s (.slice none 0 0), .s (.slice none 0 0)], true⟩), (1, some ⟨145, .agg [.ptr 2 3 0 0], true⟩), (2, some ⟨147, .agg [.s (.slice none 0 0), .sl 3 1 0 n2, .sl 4 1 0 n3], true⟩), (3, some ⟨9, .ls x12, true⟩), (4, some ⟨3, .li .i64 x13, true⟩), (5, some ⟨79, .agg [.sl 6 1 0 a110, .sl 7 1 0 a111, .s (.slice none 0 0)], true⟩), (6, some ⟨3, .li .i64 a112, true⟩), (7, some ⟨9, .ls a113, true⟩)], 8, none⟩ K) (fun (a118 : Int) (a119 : Int) => lpN (sub (bodyOf Tryd.prog 48) [1, 1, 1, 1, 1, 1, 0, 1, 0, 0]) (fnX Tryd.prog mode11 T_cloneN fuel 145 0) 44601490376292058848932126031174737695482032 [4, 5, 7, 13, 86, 87, 88] k ⟨[(4, .ptr 0 3 0 0), (5, .s (.int .i64 0)), (7, .ptr 1 1 0 0), (13, .ptr 5 3 0 0), (86, .sl 4 1 0 n3), (87, .s (.int .i64 a118)), (88, .s (.int .i64 a119))], [(0, some ⟨79, .agg [.s (.slice none 0 0), .s (.slice none 0 0), .s (.slice none 0 0)], true⟩), (1, some ⟨145, .agg [.ptr 2 3 0 0], true⟩), (2, some ⟨147, .agg [.s (.slice none 0 0), .sl 3 1 0 n2, .sl 4 1 0 n3], true⟩), (3, some ⟨9, .ls x12, true⟩), (4, some ⟨3, .li .i64 x13, true⟩), (5, some ⟨79, .agg [.s (.slice none 0 0), .s (.slice none 0 0), .s (.slice none 0 0)], true⟩)], 6, none⟩ K) (K (.exit 4) ⟨[(4, .ptr 0 3 0 0), (5, .s (.int .i64 0)), (7, .ptr 1 1 0 0), (13, .ptr 5 3 0 0)], [(0, some ⟨79, .agg [.s (.slice none 0 0), .s (.slice none 0 0), .s (.slice none 0 0)], true⟩), (1, some ⟨145, .agg [.ptr 2 3 0 0], true⟩), (2, some ⟨147, .agg [.s (.slice none 0 0), .sl 3 1 0 n2, .sl 4 1 0 n3], true⟩), (3, some ⟨9, .ls x12, true⟩), (4, some ⟨3, .li .i64 x13, true⟩), (5, some ⟨79, .agg [.s (.slice none 0 0), .s (.slice none 0 0), .s (.slice none 0 0)], true⟩)], 6, none⟩) := by kernel_rfl
noncomputable def PeelNF_l2 {R : Type} (fuel : Nat) (n3 : Nat) (n2 : Nat) (x12 : List ByteArray) (x13 : List Int) (k0 : Nat → Nat → List Int → List ByteArray → Option R) (k1 : Option R) : Nat → Int → Int → Option R
  | 0, _, _ => none
  | k + 1, w38, w37 =>
    (PeelNF_s4 w37 w38 n3 x13 n2 x12 (fun (a109 : Int) (a110 : Nat) (a111 : Nat) (a112 : List Int) (a113 : List ByteArray) => (PeelNF_l3 fuel n3 w38 n2 x12 x13 (fun (x114 : Nat) (x115 : Nat) (x116 : List Int) (x117 : List ByteArray) => k0 x114 x115 x116 x117) k a109 a110 a111 a112 a113)) (fun (a118 : Int) (a119 : Int) => ( PeelNF_l2 fuel n3 n2 x12 x13 k0 k1 k a118 a119 )) (k1))
theorem PeelNF_l2_eq (fuel : Nat) (n3 : Nat) (n2 : Nat) (x12 : List ByteArray) (x13 : List Int) (K : Ex → St → Option Out) : ∀ (k : Nat) (w38 : Int) (w37 : Int), lpN (sub (bodyOf Tryd.prog 48) [1, 1, 1, 1, 1, 1, 0, 1, 0, 0]) (fnX Tryd.prog mode11 T_cloneN fuel 145 0) 44601490376292058848932126031174737695482032 [4, 5, 7, 13, 86, 87, 88] k ⟨[(4, .ptr 0 3 0 0), (5, .s (.int .i64 0)), (7, .ptr 1 1 0 0), (13, .ptr 5 3 0 0), (86, .sl 4 1 0 n3), (87, .s (.int .i64 w38)), (88, .s (.int .i64 w37))], [(0, some ⟨79, .agg [.s (.slice none 0 0), .s (.slice none 0 0), .s (.slice none 0 0)], true⟩), (1, some ⟨145, .agg [.ptr 2 3 0 0], true⟩), (2, some ⟨147, .agg [.s (.slice none 0 0), .sl 3 1 0 n2, .sl 4 1 0 n3], true⟩), (3, some ⟨9, .ls x12, true⟩), (4, some ⟨3, .li .i64 x13, true⟩), (5, some ⟨79, .agg [.s (.slice none 0 0), .s (.slice none 0 0), .s (.slice none 0 0)], true⟩)], 6, none⟩ K = PeelNF_l2 fuel n3 n2 x12 x13 (fun (y63 : Nat) (y64 : Nat) (y65 : List Int) (y66 : List ByteArray) => K (.exit 4) ⟨[(4, .ptr 0 3 0 0), (5, .s (.int .i64 0)), (7, .ptr 1 1 0 0), (13, .ptr 5 3 0 0)], [(0, some ⟨79, .agg [.s (.slice none 0 0), .s (.slice none 0 0), .s (.slice none 0 0)], true⟩), (1, some ⟨145, .agg [.ptr 2 3 0 0], true⟩), (2, some ⟨147, .agg [.s (.slice none 0 0), .sl 3 1 0 n2, .sl 4 1 0 n3], true⟩), (3, some ⟨9, .ls x12, true⟩), (4, some ⟨3, .li .i64 x13, true⟩), (5, some ⟨79, .agg [.sl 6 1 0 y63, .sl 7 1 0 y64, .s (.slice none 0 0)], true⟩), (6, some ⟨3, .li .i64 y65, true⟩), (7, some ⟨9, .ls y66, true⟩)], 8, none⟩) (K (.exit 4) ⟨[(4, .ptr 0 3 0 0), (5, .s (.int .i64 0)), (7, .ptr 1 1 0 0), (13, .ptr 5 3 0 0)], [(0, some ⟨79, .agg [.s (.slice none 0 0), .s (.slice none 0 0), .s (.slice none 0 0)], true⟩), (1, some ⟨145, .agg [.ptr 2 3 0 0], true⟩), (2, some ⟨147, .agg [.s (.slice none 0 0), .sl 3 1 0 n2, .sl 4 1 0 n3], true⟩), (3, some ⟨9, .ls x12, true⟩), (4, some ⟨3, .li .i64 x13, true⟩), (5, some ⟨79, .agg [.s (.slice none 0 0), .s (.slice none 0 0), .s (.slice none 0 0)], true⟩)], 6, none⟩) k w38 w37
  | 0, _, _ => rfl
  | k + 1, w38, w37 => by
    unfold PeelNF_l2
    exact (PeelNF_s4_eq fuel k K w37 w38 n3 x13 n2 x12).trans (congr (congr (congr (Eq.refl (PeelNF_s4 (R := Out) w37 w38 n3 x13 n2 x12)) (funext fun a109 => funext fun a110 => funext fun a111 => funext fun a112 => funext fun a113 => PeelNF_l3_eq fuel n3 w38 n2 x12 x13 K k a109 a110 a111 a112 a113)) (funext fun a118 => funext fun a119 => PeelNF_l2_eq fuel n3 n2 x12 x13 K k a118 a119)) (rfl))
noncomputable def PeelNF_s7 {R : Type} (x122 : Nat) (x123 : Nat) (x124 : List Int) (x125 : List ByteArray) (c0 : Option R) : Option R :=
  c0
theorem PeelNF_s7_eq (fuel : Nat) (k : Nat) (K : Ex → St → Option Out) (x122 : Nat) (x123 : Nat) (x124 : List Int) (x125 : List ByteArray) : lpN (sub (bodyOf Tryd.prog 48) [1, 1, 1, 1, 1, 1, 1, 0, 1, 0, 0]) (fnX Tryd.prog mode11 T_cloneN fuel 145 0) 22300745198530623141535718272648361505988656 [4, 5, 13, 117, 118, 119] (k + 1) ⟨[(4, .ptr 0 3 0 0), (5, .s (.int .i64 0)), (13, .ptr 1 3 0 0), (117, .s (.slice none 0 0)), (118, .s (.int .i64 0)), (119, .s (.int .i64 0))], [(0, some ⟨79, .agg [.s (.slice none 0 0), .s (.slice none 0 0), .s (.slice none 0 0)], true⟩), (1, some ⟨79, .agg [.sl 2 1 0 x122, .sl 3 1 0 x123, .s (.slice none 0 0)], true⟩), (2, some ⟨3, .li .i64 x124, true⟩), (3, some ⟨9, .ls x125, true⟩)], 4, none⟩ K = PeelNF_s7 x122 x123 x124 x125 (K (.exit 6) ⟨[(4, .ptr 0 3 0 0), (5, .s (.int .i64 0)), (13, .ptr 1 3 0 0)], [(0, some ⟨79, .agg [.s (.slice none 0 0), .s (.slice none 0 0), .s (.slice none 0 0)], true⟩), (1, some ⟨79, .agg [.sl 2 1 0 x122, .sl 3 1 0 x123, .s (.slice none 0 0)], true⟩), (2, some ⟨3, .li .i64 x124, true⟩), (3, some ⟨9, .ls x125, true⟩)], 4, none⟩) := by kernel_rfl
noncomputable def PeelNF_l4 {R : Type} (fuel : Nat) (x122 : Nat) (x123 : Nat) (x124 : List Int) (x125 : List ByteArray) (k0 : Option R) : Nat → Option R
  | 0 => none
  | k + 1 =>
    (PeelNF_s7 x122 x123 x124 x125 (k0))
theorem PeelNF_l4_eq (fuel : Nat) (x122 : Nat) (x123 : Nat) (x124 : List Int) (x125 : List ByteArray) (K : Ex → St → Option Out) : ∀ (k : Nat) , lpN (sub (bodyOf Tryd.prog 48) [1, 1, 1, 1, 1, 1, 1, 0, 1, 0, 0]) (fnX Tryd.prog mode11 T_cloneN fuel 145 0) 22300745198530623141535718272648361505988656 [4, 5, 13, 117, 118, 119] k ⟨[(4, .ptr 0 3 0 0), (5, .s (.int .i64 0)), (13, .ptr 1 3 0 0), (117, .s (.slice none 0 0)), (118, .s (.int .i64 0)), (119, .s (.int .i64 0))], [(0, some ⟨79, .agg [.s (.slice none 0 0), .s (.slice none 0 0), .s (.slice none 0 0)], true⟩), (1, some ⟨79, .agg [.sl 2 1 0 x122, .sl 3 1 0 x123, .s (.slice none 0 0)], true⟩), (2, some ⟨3, .li .i64 x124, true⟩), (3, some ⟨9, .ls x125, true⟩)], 4, none⟩ K = PeelNF_l4 fuel x122 x123 x124 x125 (K (.exit 6) ⟨[(4, .ptr 0 3 0 0), (5, .s (.int .i64 0)), (13, .ptr 1 3 0 0)], [(0, some ⟨79, .agg [.s (.slice none 0 0), .s (.slice none 0 0), .s (.slice none 0 0)], true⟩), (1, some ⟨79, .agg [.sl 2 1 0 x122, .sl 3 1 0 x123, .s (.slice none 0 0)], true⟩), (2, some ⟨3, .li .i64 x124, true⟩), (3, some ⟨9, .ls x125, true⟩)], 4, none⟩) k 
  | 0 => rfl
  | k + 1 => by
    unfold PeelNF_l4
    exact (PeelNF_s7_eq fuel k K x122 x123 x124 x125)
noncomputable def PeelNF_s8 {R : Type} (x124 : List Int) (x122 : Nat) (x125 : List ByteArray) (x123 : Nat) (c0 : List Int → List ByteArray → Int → Option R) : Option R :=
  c0 ((x124.drop 0).take x122) ((x125.drop 0).take x123) 0
theorem PeelNF_s8_eq (fuel : Nat)  (x124 : List Int) (x122 : Nat) (x125 : List ByteArray) (x123 : Nat) : (kont (fnX Tryd.prog mode11 T_cloneN fuel 145 0) (bodyOf Tryd.prog 48) [1, 1, 1, 1, 1, 1, 1, 0, 1, 0] 48 (endK Tryd.prog 0 0 48)) (.exit 6) ⟨[(4, .ptr 0 3 0 0), (5, .s (.int .i64 0)), (13, .ptr 1 3 0 0)], [(0, some ⟨79, .agg [.s (.slice none 0 0), .s (.slice none 0 0), .s (.slice none 0 0)], true⟩), (1, some ⟨79, .agg [.sl 2 1 0 x122, .sl 3 1 0 x123, .s (.slice none 0 0)], true⟩), (2, some ⟨3, .li .i64 x124, true⟩), (3, some ⟨9, .ls x125, true⟩)], 4, none⟩ = PeelNF_s8 x124 x122 x125 x123 (fun (a126 : List Int) (a127 : List ByteArray) (a128 : Int) => some (.tup [.agg [.li .i64 a126, .ls a127, .s (.slice none 0 0)], .s (.int .i64 a128)], [])) := by kernel_rfl
noncomputable def PeelNF_s6 {R : Type} (n2 : Nat) (n3 : Nat) (x12 : List ByteArray) (x13 : List Int) (x122 : Nat) (x123 : Nat) (x124 : List Int) (x125 : List ByteArray) (c0 : Option R) : Option R :=
  c0
theorem PeelNF_s6_eq (fuel : Nat)  (n2 : Nat) (n3 : Nat) (x12 : List ByteArray) (x13 : List Int) (x122 : Nat) (x123 : Nat) (x124 : List Int) (x125 : List ByteArray) : (kont (fnX Tryd.prog mode11 T_cloneN fuel 145 0) (bodyOf Tryd.prog 48) [1, 1, 1, 1, 1, 1, 0, 1, 0] 48 (endK Tryd.prog 0 0 48)) (.exit 4) ⟨[(4, .ptr 0 3 0 0), (5, .s (.int .i64 0)), (7, .ptr 1 1 0 0), (13, .ptr 5 3 0 0)], [(0, some ⟨79, .agg [.s (.slice none 0 0), .s (.slice none 0 0), .s (.slice none 0 0)], true⟩), (1, some ⟨145, .agg [.ptr 2 3 0 0], true⟩), (2, some ⟨147, .agg [.s (.slice none 0 0), .sl 3 1 0 n2, .sl 4 1 0 n3], true⟩), (3, some ⟨9, .ls x12, true⟩), (4, some ⟨3, .li .i64 x13, true⟩), (5, some ⟨79, .agg [.sl 6 1 0 x122, .sl 7 1 0 x123, .s (.slice none 0 0)], true⟩), (6, some ⟨3, .li .i64 x124, true⟩), (7, some ⟨9, .ls x125, true⟩)], 8, none⟩ = PeelNF_s6 n2 n3 x12 x13 x122 x123 x124 x125 (lpN (sub (bodyOf Tryd.prog 48) [1, 1, 1, 1, 1, 1, 1, 0, 1, 0, 0]) (fnX Tryd.prog mode11 T_cloneN fuel 145 0) 22300745198530623141535718272648361505988656 [4, 5, 13, 117, 118, 119] fuel ⟨[(4, .ptr 0 3 0 0), (5, .s (.int .i64 0)), (13, .ptr 1 3 0 0), (117, .s (.slice none 0 0)), (118, .s (.int .i64 0)), (119, .s (.int .i64 0))], [(0, some ⟨79, .agg [.s (.slice none 0 0), .s (.slice none 0 0), .s (.slice none 0 0)], true⟩), (1, some ⟨79, .agg [.sl 2 1 0 x122, .sl 3 1 0 x123, .s (.slice none 0 0)], true⟩), (2, some ⟨3, .li .i64 x124, true⟩), (3, some ⟨9, .ls x125, true⟩)], 4, none⟩ (kont (fnX Tryd.prog mode11 T_cloneN fuel 145 0) (bodyOf Tryd.prog 48) [1, 1, 1, 1, 1, 1, 1, 0, 1, 0] 48 (endK Tryd.prog 0 0 48))) := by kernel_rfl
noncomputable def PeelNF_s10 {R : Type}  (c0 : Option R) : Option R :=
  c0
theorem PeelNF_s10_eq (fuel : Nat) (k : Nat) (K : Ex → St → Option Out)  : lpN (sub (bodyOf Tryd.prog 48) [1, 1, 1, 1, 1, 1, 1, 0, 1, 0, 0]) (fnX Tryd.prog mode11 T_cloneN fuel 145 0) 22300745198530623141535718272648361505988656 [4, 5, 13, 117, 118, 119] (k + 1) ⟨[(4, .ptr 0 3 0 0), (5, .s (.int .i64 0)), (13, .ptr 1 3 0 0), (117, .s (.slice none 0 0)), (118, .s (.int .i64 0)), (119, .s (.int .i64 0))], [(0, some ⟨79, .agg [.s (.slice none 0 0), .s (.slice none 0 0), .s (.slice none 0 0)], true⟩), (1, some ⟨79, .agg [.s (.slice none 0 0), .s (.slice none 0 0), .s (.slice none 0 0)], true⟩)], 2, none⟩ K = PeelNF_s10  (K (.exit 6) ⟨[(4, .ptr 0 3 0 0), (5, .s (.int .i64 0)), (13, .ptr 1 3 0 0)], [(0, some ⟨79, .agg [.s (.slice none 0 0), .s (.slice none 0 0), .s (.slice none 0 0)], true⟩), (1, some ⟨79, .agg [.s (.slice none 0 0), .s (.slice none 0 0), .s (.slice none 0 0)], true⟩)], 2, none⟩) := by kernel_rfl
noncomputable def PeelNF_l5 {R : Type} (fuel : Nat)  (k0 : Option R) : Nat → Option R
  | 0 => none
  | k + 1 =>
    (PeelNF_s10 (k0))
theorem PeelNF_l5_eq (fuel : Nat)  (K : Ex → St → Option Out) : ∀ (k : Nat) , lpN (sub (bodyOf Tryd.prog 48) [1, 1, 1, 1, 1, 1, 1, 0, 1, 0, 0]) (fnX Tryd.prog mode11 T_cloneN fuel 145 0) 22300745198530623141535718272648361505988656 [4, 5, 13, 117, 118, 119] k ⟨[(4, .ptr 0 3 0 0), (5, .s (.int .i64 0)), (13, .ptr 1 3 0 0), (117, .s (.slice none 0 0)), (118, .s (.int .i64 0)), (119, .s (.int .i64 0))], [(0, some ⟨79, .agg [.s (.slice none 0 0), .s (.slice none 0 0), .s (.slice none 0 0)], true⟩), (1, some ⟨79, .agg [.s (.slice none 0 0), .s (.slice none 0 0), .s (.slice none 0 0)], true⟩)], 2, none⟩ K = PeelNF_l5 fuel  (K (.exit 6) ⟨[(4, .ptr 0 3 0 0), (5, .s (.int .i64 0)), (13, .ptr 1 3 0 0)], [(0, some ⟨79, .agg [.s (.slice none 0 0), .s (.slice none 0 0), .s (.slice none 0 0)], true⟩), (1, some ⟨79, .agg [.s (.slice none 0 0), .s (.slice none 0 0), .s (.slice none 0 0)], true⟩)], 2, none⟩) k 
  | 0 => rfl
  | k + 1 => by
    unfold PeelNF_l5
    exact (PeelNF_s10_eq fuel k K )
noncomputable def PeelNF_s11 {R : Type}  (c0 : Int → Option R) : Option R :=
  c0 0
theorem PeelNF_s11_eq (fuel : Nat)   : (kont (fnX Tryd.prog mode11 T_cloneN fuel 145 0) (bodyOf Tryd.prog 48) [1, 1, 1, 1, 1, 1, 1, 0, 1, 0] 48 (endK Tryd.prog 0 0 48)) (.exit 6) ⟨[(4, .ptr 0 3 0 0), (5, .s (.int .i64 0)), (13, .ptr 1 3 0 0)], [(0, some ⟨79, .agg [.s (.slice none 0 0), .s (.slice none 0 0), .s (.slice none 0 0)], true⟩), (1, some ⟨79, .agg [.s (.slice none 0 0), .s (.slice none 0 0), .s (.slice none 0 0)], true⟩)], 2, none⟩ = PeelNF_s11  (fun (a129 : Int) => some (.tup [.agg [.s (.slice none 0 0), .s (.slice none 0 0), .s (.slice none 0 0)], .s (.int .i64 a129)], [])) := by kernel_rfl
noncomputable def PeelNF_s9 {R : Type} (n2 : Nat) (n3 : Nat) (x12 : List ByteArray) (x13 : List Int) (c0 : Option R) : Option R :=
  c0
theorem PeelNF_s9_eq (fuel : Nat)  (n2 : Nat) (n3 : Nat) (x12 : List ByteArray) (x13 : List Int) : (kont (fnX Tryd.prog mode11 T_cloneN fuel 145 0) (bodyOf Tryd.prog 48) [1, 1, 1, 1, 1, 1, 0, 1, 0] 48 (endK Tryd.prog 0 0 48)) (.exit 4) ⟨[(4, .ptr 0 3 0 0), (5, .s (.int .i64 0)), (7, .ptr 1 1 0 0), (13, .ptr 5 3 0 0)], [(0, some ⟨79, .agg [.s (.slice none 0 0), .s (.slice none 0 0), .s (.slice none 0 0)], true⟩), (1, some ⟨145, .agg [.ptr 2 3 0 0], true⟩), (2, some ⟨147, .agg [.s (.slice none 0 0), .sl 3 1 0 n2, .sl 4 1 0 n3], true⟩), (3, some ⟨9, .ls x12, true⟩), (4, some ⟨3, .li .i64 x13, true⟩), (5, some ⟨79, .agg [.s (.slice none 0 0), .s (.slice none 0 0), .s (.slice none 0 0)], true⟩)], 6, none⟩ = PeelNF_s9 n2 n3 x12 x13 (lpN (sub (bodyOf Tryd.prog 48) [1, 1, 1, 1, 1, 1, 1, 0, 1, 0, 0]) (fnX Tryd.prog mode11 T_cloneN fuel 145 0) 22300745198530623141535718272648361505988656 [4, 5, 13, 117, 118, 119] fuel ⟨[(4, .ptr 0 3 0 0), (5, .s (.int .i64 0)), (13, .ptr 1 3 0 0), (117, .s (.slice none 0 0)), (118, .s (.int .i64 0)), (119, .s (.int .i64 0))], [(0, some ⟨79, .agg [.s (.slice none 0 0), .s (.slice none 0 0), .s (.slice none 0 0)], true⟩), (1, some ⟨79, .agg [.s (.slice none 0 0), .s (.slice none 0 0), .s (.slice none 0 0)], true⟩)], 2, none⟩ (kont (fnX Tryd.prog mode11 T_cloneN fuel 145 0) (bodyOf Tryd.prog 48) [1, 1, 1, 1, 1, 1, 1, 0, 1, 0] 48 (endK Tryd.prog 0 0 48))) := by kernel_rfl
noncomputable def PeelNF_s3 {R : Type} (n3 : Nat) (n2 : Nat) (x12 : List ByteArray) (x13 : List Int) (c0 : Int → Int → Option R) : Option R :=
  c0 ((n3 : Nat) : Int) 0
theorem PeelNF_s3_eq (fuel : Nat)  (n3 : Nat) (n2 : Nat) (x12 : List ByteArray) (x13 : List Int) : (kont (itX Tryd.prog mode11 T_cloneN fuel 3 18 7 6 (roundK (evC (sub (bodyOf Tryd.prog 48) [1, 1, 1, 1, 0, 1, 0, 0])) (evC (sub (bodyOf Tryd.prog 48) [1, 1, 1, 1, 0, 1, 0, 1])) (fnX Tryd.prog mode11 T_cloneN fuel 145 0) #[39] 7253554917686675536617344 [(4, .ptr 0 3 0 0), (5, .s (.int .i64 0)), (7, .ptr 1 1 0 0), (8, .ptr 5 1 0 0), (38, .fn (.func 106) [.ptr 2 3 0 0] [])])) (bodyOf Tryd.prog 106) [0] 0 (itE (behind ⟨[(4, .ptr 0 3 0 0), (5, .s (.int .i64 0)), (7, .ptr 1 1 0 0), (8, .ptr 5 1 0 0), (38, .fn (.func 106) [.ptr 2 3 0 0] [])], [(0, some ⟨79, .agg [.s (.slice none 0 0), .s (.slice none 0 0), .s (.slice none 0 0)], true⟩), (1, some ⟨145, .agg [.ptr 2 3 0 0], true⟩), (2, some ⟨147, .agg [.s (.slice none 0 0), .sl 3 1 0 n2, .sl 4 1 0 n3], true⟩), (3, some ⟨9, .ls (List.replicate n2 ByteArray.empty), true⟩), (4, some ⟨3, .li .i64 (List.replicate n3 (0 : Int)), true⟩), (5, some ⟨148, .agg [.fn (.func 105) [.ptr 2 3 0 0] []], true⟩)], 6, none⟩ (kont (fnX Tryd.prog mode11 T_cloneN fuel 145 0) (bodyOf Tryd.prog 48) [1, 1, 1, 1, 0, 1, 0] 48 (endK Tryd.prog 0 0 48))))) .ret ⟨[], [(0, some ⟨79, .agg [.s (.slice none 0 0), .s (.slice none 0 0), .s (.slice none 0 0)], true⟩), (1, some ⟨145, .agg [.ptr 2 3 0 0], true⟩), (2, some ⟨147, .agg [.s (.slice none 0 0), .sl 3 1 0 n2, .sl 4 1 0 n3], true⟩), (3, some ⟨9, .ls x12, true⟩), (4, some ⟨3, .li .i64 x13, true⟩), (5, some ⟨148, .agg [.fn (.func 105) [.ptr 2 3 0 0] []], true⟩), (6, none)], 7, none⟩ = PeelNF_s3 n3 n2 x12 x13 (fun (a120 : Int) (a121 : Int) => lpN (sub (bodyOf Tryd.prog 48) [1, 1, 1, 1, 1, 1, 0, 1, 0, 0]) (fnX Tryd.prog mode11 T_cloneN fuel 145 0) 44601490376292058848932126031174737695482032 [4, 5, 7, 13, 86, 87, 88] fuel ⟨[(4, .ptr 0 3 0 0), (5, .s (.int .i64 0)), (7, .ptr 1 1 0 0), (13, .ptr 5 3 0 0), (86, .sl 4 1 0 n3), (87, .s (.int .i64 a120)), (88, .s (.int .i64 a121))], [(0, some ⟨79, .agg [.s (.slice none 0 0), .s (.slice none 0 0), .s (.slice none 0 0)], true⟩), (1, some ⟨145, .agg [.ptr 2 3 0 0], true⟩), (2, some ⟨147, .agg [.s (.slice none 0 0), .sl 3 1 0 n2, .sl 4 1 0 n3], true⟩), (3, some ⟨9, .ls x12, true⟩), (4, some ⟨3, .li .i64 x13, true⟩), (5, some ⟨79, .agg [.s (.slice none 0 0), .s (.slice none 0 0), .s (.slice none 0 0)], true⟩)], 6, none⟩ (kont (fnX Tryd.prog mode11 T_cloneN fuel 145 0) (bodyOf Tryd.prog 48) [1, 1, 1, 1, 1, 1, 0, 1, 0] 48 (endK Tryd.prog 0 0 48))) := by kernel_rfl
noncomputable def PeelNF_s1 {R : Type} (z : Int) (c0 : Int → Option R) (c1 : List ByteArray → List Int → Nat → Nat → Option R) : Option R :=
  grd (okE ([])) <|
  br (((if mayB z ([]) = true then 0 else 1) : Int) != 0)
    (c0 (if mayB z ([]) = true then 0 else 1))
    (bnd (mkN z z 16) fun n2 =>
    bnd (mkN z z 8) fun n3 =>
    c1 (List.replicate n2 ByteArray.empty) (List.replicate n3 (0 : Int)) n2 n3)
theorem PeelNF_s1_eq (fuel : Nat)  (z : Int) : callN Tryd.prog mode11 T_cloneN fuel 48 [.s (.int .i64 z), .s (.slice none 0 0)] [] = PeelNF_s1 z (fun (a1 : Int) => some (.tup [.agg [.s (.slice none 0 0), .s (.slice none 0 0), .s (.slice none 0 0)], .s (.int .i64 a1)], [])) (fun (a10 : List ByteArray) (a11 : List Int) (n2 : Nat) (n3 : Nat) => lpN (sub (bodyOf Tryd.prog 106) [0, 0]) (itX Tryd.prog mode11 T_cloneN fuel 3 18 7 6 (roundK (evC (sub (bodyOf Tryd.prog 48) [1, 1, 1, 1, 0, 1, 0, 0])) (evC (sub (bodyOf Tryd.prog 48) [1, 1, 1, 1, 0, 1, 0, 1])) (fnX Tryd.prog mode11 T_cloneN fuel 145 0) #[39] 7253554917686675536617344 [(4, .ptr 0 3 0 0), (5, .s (.int .i64 0)), (7, .ptr 1 1 0 0), (8, .ptr 5 1 0 0), (38, .fn (.func 106) [.ptr 2 3 0 0] [])])) 0 [0, 1] fuel ⟨[(0, .ptr 2 3 0 0), (1, .yl 6)], [(0, some ⟨79, .agg [.s (.slice none 0 0), .s (.slice none 0 0), .s (.slice none 0 0)], true⟩), (1, some ⟨145, .agg [.ptr 2 3 0 0], true⟩), (2, some ⟨147, .agg [.s (.slice none 0 0), .sl 3 1 0 n2, .sl 4 1 0 n3], true⟩), (3, some ⟨9, .ls a10, true⟩), (4, some ⟨3, .li .i64 a11, true⟩), (5, some ⟨148, .agg [.fn (.func 105) [.ptr 2 3 0 0] []], true⟩), (6, none)], 7, none⟩ (kont (itX Tryd.prog mode11 T_cloneN fuel 3 18 7 6 (roundK (evC (sub (bodyOf Tryd.prog 48) [1, 1, 1, 1, 0, 1, 0, 0])) (evC (sub (bodyOf Tryd.prog 48) [1, 1, 1, 1, 0, 1, 0, 1])) (fnX Tryd.prog mode11 T_cloneN fuel 145 0) #[39] 7253554917686675536617344 [(4, .ptr 0 3 0 0), (5, .s (.int .i64 0)), (7, .ptr 1 1 0 0), (8, .ptr 5 1 0 0), (38, .fn (.func 106) [.ptr 2 3 0 0] [])])) (bodyOf Tryd.prog 106) [0] 0 (itE (behind ⟨[(4, .ptr 0 3 0 0), (5, .s (.int .i64 0)), (7, .ptr 1 1 0 0), (8, .ptr 5 1 0 0), (38, .fn (.func 106) [.ptr 2 3 0 0] [])], [(0, some ⟨79, .agg [.s (.slice none 0 0), .s (.slice none 0 0), .s (.slice none 0 0)], true⟩), (1, some ⟨145, .agg [.ptr 2 3 0 0], true⟩), (2, some ⟨147, .agg [.s (.slice none 0 0), .sl 3 1 0 n2, .sl 4 1 0 n3], true⟩), (3, some ⟨9, .ls (List.replicate n2 ByteArray.empty), true⟩), (4, some ⟨3, .li .i64 (List.replicate n3 (0 : Int)), true⟩), (5, some ⟨148, .agg [.fn (.func 105) [.ptr 2 3 0 0] []], true⟩)], 6, none⟩ (kont (fnX Tryd.prog mode11 T_cloneN fuel 145 0) (bodyOf Tryd.prog 48) [1, 1, 1, 1, 0, 1, 0] 48 (endK Tryd.prog 0 0 48)))))) := by kernel_rfl
noncomputable def PeelNF {R : Type} (fuel : Nat) (z : Int) (r0 : Int → Option R) (r1 : List Int → List ByteArray → Int → Option R) : Option R :=
  (PeelNF_s1 z (fun (a1 : Int) => r0 a1) (fun (a10 : List ByteArray) (a11 : List Int) (n2 : Nat) (n3 : Nat) => (PeelNF_l1 fuel n2 n3 (fun (x12 : List ByteArray) (x13 : List Int) => (PeelNF_s3 n3 n2 x12 x13 (fun (a120 : Int) (a121 : Int) => (PeelNF_l2 fuel n3 n2 x12 x13 (fun (x122 : Nat) (x123 : Nat) (x124 : List Int) (x125 : List ByteArray) => (PeelNF_s6 n2 n3 x12 x13 x122 x123 x124 x125 ((PeelNF_l4 fuel x122 x123 x124 x125 ((PeelNF_s8 x124 x122 x125 x123 (fun (a126 : List Int) (a127 : List ByteArray) (a128 : Int) => r1 a126 a127 a128))) fuel)))) ((PeelNF_s9 n2 n3 x12 x13 ((PeelNF_l5 fuel ((PeelNF_s11 (fun (a129 : Int) => r0 a129))) fuel)))) fuel a120 a121)))) fuel a10 a11)))
theorem PeelNF_eq (fuel : Nat) (z : Int) : callN Tryd.prog mode11 T_cloneN fuel 48 [.s (.int .i64 z), .s (.slice none 0 0)] [] = PeelNF fuel z (fun (z0 : Int) => some (.tup [.agg [.s (.slice none 0 0), .s (.slice none 0 0), .s (.slice none 0 0)], .s (.int .i64 z0)], [])) (fun (z0 : List Int) (z1 : List ByteArray) (z2 : Int) => some (.tup [.agg [.li .i64 z0, .ls z1, .s (.slice none 0 0)], .s (.int .i64 z2)], [])) := by
  unfold PeelNF
  exact (PeelNF_s1_eq fuel  z).trans (congr (congr (Eq.refl (PeelNF_s1 (R := Out) z)) (rfl)) (funext fun a10 => funext fun a11 => funext fun n2 => funext fun n3 => (PeelNF_l1_eq fuel n2 n3 (kont (itX Tryd.prog mode11 T_cloneN fuel 3 18 7 6 (roundK (evC (sub (bodyOf Tryd.prog 48) [1, 1, 1, 1, 0, 1, 0, 0])) (evC (sub (bodyOf Tryd.prog 48) [1, 1, 1, 1, 0, 1, 0, 1])) (fnX Tryd.prog mode11 T_cloneN fuel 145 0) #[39] 7253554917686675536617344 [(4, .ptr 0 3 0 0), (5, .s (.int .i64 0)), (7, .ptr 1 1 0 0), (8, .ptr 5 1 0 0), (38, .fn (.func 106) [.ptr 2 3 0 0] [])])) (bodyOf Tryd.prog 106) [0] 0 (itE (behind ⟨[(4, .ptr 0 3 0 0), (5, .s (.int .i64 0)), (7, .ptr 1 1 0 0), (8, .ptr 5 1 0 0), (38, .fn (.func 106) [.ptr 2 3 0 0] [])], [(0, some ⟨79, .agg [.s (.slice none 0 0), .s (.slice none 0 0), .s (.slice none 0 0)], true⟩), (1, some ⟨145, .agg [.ptr 2 3 0 0], true⟩), (2, some ⟨147, .agg [.s (.slice none 0 0), .sl 3 1 0 n2, .sl 4 1 0 n3], true⟩), (3, some ⟨9, .ls (List.replicate n2 ByteArray.empty), true⟩), (4, some ⟨3, .li .i64 (List.replicate n3 (0 : Int)), true⟩), (5, some ⟨148, .agg [.fn (.func 105) [.ptr 2 3 0 0] []], true⟩)], 6, none⟩ (kont (fnX Tryd.prog mode11 T_cloneN fuel 145 0) (bodyOf Tryd.prog 48) [1, 1, 1, 1, 0, 1, 0] 48 (endK Tryd.prog 0 0 48))))) fuel a10 a11).trans (congrFun (congrFun (congrFun (congr (Eq.refl (PeelNF_l1 (R := Out) fuel n2 n3)) (funext fun x12 => funext fun x13 => (PeelNF_s3_eq fuel  n3 n2 x12 x13).trans (congr (Eq.refl (PeelNF_s3 (R := Out) n3 n2 x12 x13)) (funext fun a120 => funext fun a121 => (PeelNF_l2_eq fuel n3 n2 x12 x13 (kont (fnX Tryd.prog mode11 T_cloneN fuel 145 0) (bodyOf Tryd.prog 48) [1, 1, 1, 1, 1, 1, 0, 1, 0] 48 (endK Tryd.prog 0 0 48)) fuel a120 a121).trans (congrFun (congrFun (congrFun (congr (congr (Eq.refl (PeelNF_l2 (R := Out) fuel n3 n2 x12 x13)) (funext fun x122 => funext fun x123 => funext fun x124 => funext fun x125 => (PeelNF_s6_eq fuel  n2 n3 x12 x13 x122 x123 x124 x125).trans (congr (Eq.refl (PeelNF_s6 (R := Out) n2 n3 x12 x13 x122 x123 x124 x125)) ((PeelNF_l4_eq fuel x122 x123 x124 x125 (kont (fnX Tryd.prog mode11 T_cloneN fuel 145 0) (bodyOf Tryd.prog 48) [1, 1, 1, 1, 1, 1, 1, 0, 1, 0] 48 (endK Tryd.prog 0 0 48)) fuel ).trans (congrFun (congr (Eq.refl (PeelNF_l4 (R := Out) fuel x122 x123 x124 x125)) ((PeelNF_s8_eq fuel  x124 x122 x125 x123))) fuel))))) ((PeelNF_s9_eq fuel  n2 n3 x12 x13).trans (congr (Eq.refl (PeelNF_s9 (R := Out) n2 n3 x12 x13)) ((PeelNF_l5_eq fuel  (kont (fnX Tryd.prog mode11 T_cloneN fuel 145 0) (bodyOf Tryd.prog 48) [1, 1, 1, 1, 1, 1, 1, 0, 1, 0] 48 (endK Tryd.prog 0 0 48)) fuel ).trans (congrFun (congr (Eq.refl (PeelNF_l5 (R := Out) fuel )) ((PeelNF_s11_eq fuel  ))) fuel))))) fuel) a120) a121))))) fuel) a10) a11)))
theorem PeelN_loop {R : Type} (fuel m : Nat) (hm : m ≤ 64) (t : List ByteArray) (k0 : Nat → Nat → List Int → List ByteArray → Option R) (k1 : Option R) : ∀ (k j : Nat), j ≤ m → m < j + k → PeelNF_l2 fuel m m t (List.replicate m 0) k0 k1 k (m : Int) (j : Int) = k1
  | 0, j, h1, h2 => by omega
  | k + 1, j, h1, h2 => by
    unfold PeelNF_l2 PeelNF_s4
    rw [br_if]
    by_cases hc : j < m
    · have eb : below (j : Int) m = some j := by rw [below_of (by omega) (by omega)]; rfl
      have el : (List.replicate m (0 : Int))[0 + j]? = some 0 := by rw [Nat.zero_add, List.getElem?_replicate, if_pos hc]
      rw [if_pos (by simpa using hc), bnd_of eb, bnd_of el, br_if, if_neg (by decide), wrap_i64 (by omega) (by omega), show (j : Int) + 1 = ((j + 1 : Nat) : Int) by omega]
      exact PeelN_loop fuel m hm t k0 k1 k (j + 1) (by omega) (by omega)
    · rw [if_neg (by simpa using hc)]
theorem PeelN_fact (z : Int) : Fact Tryd.prog gTab 48 [.s (.int .i64 z), .s (.slice none 0 0)] [] (.tup [.agg [.s (.slice none 0 0), .s (.slice none 0 0), .s (.slice none 0 0)], .s (.int .i64 (if mayB z [] = true then 0 else 1))], []) := by
  have hok : okE [] = true := okE_iff.2 fun e he => by simp at he
  refine callN_fact hN hM T_cloneN_ok (n := 69 + 1) (mode := mode11) ?_
  rw [PeelNF_eq]
  unfold PeelNF PeelNF_s1
  rw [grd_of hok]
  by_cases hm : mayB z [] = true
  · obtain ⟨⟨z1, z2⟩, _⟩ := mayB_iff.1 hm
    obtain ⟨m, rfl⟩ : ∃ m : Nat, z = (m : Int) := ⟨z.toNat, by omega⟩
    rw [if_pos hm, br_if, if_neg (by decide), bnd_of (mkN_of (by omega) (by omega) (by omega)), bnd_of (mkN_of (by omega) (by omega) (by omega)), Int.toNat_natCast]
    unfold PeelNF_l1 PeelNF_s2
    dsimp only
    rw [grd_of (by rw [hok]; rfl), step_nil, br_if, if_pos (by decide)]
    unfold PeelNF_s3
    dsimp only
    have := fun k0 k1 => PeelN_loop (R := Out) (69 + 1) m (by omega) (List.replicate m ByteArray.empty) k0 k1 (69 + 1) 0 (by omega) (by omega)
    refine (this _ _).trans ?_
    rfl
  · rw [if_neg hm, br_if, if_pos (by decide)]
noncomputable def PeelN_ent : List V → List Blk → Option (Bool × Out)
  | [.s (.int .i64 z), .s (.slice none 0 0)], [] => some (true, (.tup [.agg [.s (.slice none 0 0), .s (.slice none 0 0), .s (.slice none 0 0)], .s (.int .i64 (if mayB z [] = true then 0 else 1))], []))
  | _, _ => none
theorem PeelN_ok : ∀ args bs out, PeelN_ent args bs = some (true, out) → Fact Tryd.prog gTab 48 args bs out := by
  intro args bs out h
  unfold PeelN_ent at h
  split at h
  · rename_i z
    simp only [Option.some.injEq, Prod.mk.injEq] at h
    obtain ⟨_, rfl⟩ := h
    exact PeelN_fact z
  · cases h
noncomputable def T_PeelN : Tbl := Tbl.cons 48 PeelN_ent T_cloneN
theorem T_PeelN_ok : CallOk Tryd.prog gTab T_PeelN := cons_ok T_cloneN_ok PeelN_ok
/-! downpour/downpourlaw15.few -/
noncomputable def fewNF_s3 {R : Type} (w29 : Int) (w3 : Int) (w2 : List ((Int × List Int) × ByteArray)) (w30 : List ((Int × List Int) × ByteArray)) (w28 : Nat) (c0 : Nat → Int → (List ((Int × List Int) × ByteArray)) → Option R) (c1 : Nat → (List ((Int × List Int) × ByteArray)) → Option R) : Option R :=
  br (decide (w29 < w3))
    (bnd (ix w2 w29) fun e36 =>
    bnd (upTo (min ((e36.1.2.length : Nat) : Int) 3) e36.1.2.length) fun j37 =>
    bnd (upTo (min ((e36.2.size : Nat) : Int) 66) e36.2.size) fun j38 =>
    grd (Nat.beq w30.length w28) <|
    grd (okN (w28 + 1) 48) <|
    c0 ((w30 ++ [((e36.1.1, ((e36.1.2.drop 0).take (j37 - 0))), (e36.2.extract 0 j38))]).length) (IntKind.i64.wrap (w29 + 1)) (w30 ++ [((e36.1.1, ((e36.1.2.drop 0).take (j37 - 0))), (e36.2.extract 0 j38))]))
    (c1 w28 w30)
theorem fewNF_s3_eq (fuel : Nat) (k : Nat) (K : Ex → St → Option Out) (w29 : Int) (w3 : Int) (w2 : List ((Int × List Int) × ByteArray)) (w30 : List ((Int × List Int) × ByteArray)) (w28 : Nat) : lpN (sub (bodyOf Tryd.prog 47) [1, 1, 0, 1, 0, 0]) (fnX Tryd.prog mode11 T_PeelN fuel 41 0) 1099511627788 [2, 3, 10, 11, 12] (k + 1) ⟨[(2, .s (.slice none 0 0)), (3, .sl 0 3 0 w28), (10, .lt (.pair (.pair (.int .i64) (.sl (.int .u64))) .str) w2), (11, .s (.int .i64 w3)), (12, .s (.int .i64 w29))], [(0, some ⟨88, .lt (.pair (.pair (.int .i64) (.sl (.int .u64))) .str) w30, true⟩)], 1, none⟩ K = fewNF_s3 w29 w3 w2 w30 w28 (fun (a39 : Nat) (a40 : Int) (a41 : List ((Int × List Int) × ByteArray)) => lpN (sub (bodyOf Tryd.prog 47) [1, 1, 0, 1, 0, 0]) (fnX Tryd.prog mode11 T_PeelN fuel 41 0) 1099511627788 [2, 3, 10, 11, 12] k ⟨[(2, .s (.slice none 0 0)), (3, .sl 0 3 0 a39), (10, .lt (.pair (.pair (.int .i64) (.sl (.int .u64))) .str) w2), (11, .s (.int .i64 w3)), (12, .s (.int .i64 a40))], [(0, some ⟨88, .lt (.pair (.pair (.int .i64) (.sl (.int .u64))) .str) a41, true⟩)], 1, none⟩ K) (fun (a42 : Nat) (a43 : List ((Int × List Int) × ByteArray)) => K (.exit 0) ⟨[(2, .s (.slice none 0 0)), (3, .sl 0 3 0 a42)], [(0, some ⟨88, .lt (.pair (.pair (.int .i64) (.sl (.int .u64))) .str) a43, true⟩)], 1, none⟩) := by kernel_rfl
noncomputable def fewNF_l2 {R : Type} (fuel : Nat) (w2 : List ((Int × List Int) × ByteArray)) (w3 : Int) (k0 : Nat → (List ((Int × List Int) × ByteArray)) → Option R) : Nat → Nat → Int → (List ((Int × List Int) × ByteArray)) → Option R
  | 0, _, _, _ => none
  | k + 1, w28, w29, w30 =>
    (fewNF_s3 w29 w3 w2 w30 w28 (fun (a39 : Nat) (a40 : Int) (a41 : List ((Int × List Int) × ByteArray)) => ( fewNF_l2 fuel w2 w3 k0 k a39 a40 a41 )) (fun (a42 : Nat) (a43 : List ((Int × List Int) × ByteArray)) => k0 a42 a43))
theorem fewNF_l2_eq (fuel : Nat) (w2 : List ((Int × List Int) × ByteArray)) (w3 : Int) (K : Ex → St → Option Out) : ∀ (k : Nat) (w28 : Nat) (w29 : Int) (w30 : List ((Int × List Int) × ByteArray)), lpN (sub (bodyOf Tryd.prog 47) [1, 1, 0, 1, 0, 0]) (fnX Tryd.prog mode11 T_PeelN fuel 41 0) 1099511627788 [2, 3, 10, 11, 12] k ⟨[(2, .s (.slice none 0 0)), (3, .sl 0 3 0 w28), (10, .lt (.pair (.pair (.int .i64) (.sl (.int .u64))) .str) w2), (11, .s (.int .i64 w3)), (12, .s (.int .i64 w29))], [(0, some ⟨88, .lt (.pair (.pair (.int .i64) (.sl (.int .u64))) .str) w30, true⟩)], 1, none⟩ K = fewNF_l2 fuel w2 w3 (fun (y34 : Nat) (y35 : List ((Int × List Int) × ByteArray)) => K (.exit 0) ⟨[(2, .s (.slice none 0 0)), (3, .sl 0 3 0 y34)], [(0, some ⟨88, .lt (.pair (.pair (.int .i64) (.sl (.int .u64))) .str) y35, true⟩)], 1, none⟩) k w28 w29 w30
  | 0, _, _, _ => rfl
  | k + 1, w28, w29, w30 => by
    unfold fewNF_l2
    exact (fewNF_s3_eq fuel k K w29 w3 w2 w30 w28).trans (congr (congr (Eq.refl (fewNF_s3 (R := Out) w29 w3 w2 w30 w28)) (funext fun a39 => funext fun a40 => funext fun a41 => fewNF_l2_eq fuel w2 w3 K k a39 a40 a41)) (rfl))
noncomputable def fewNF_s2 {R : Type} (w3 : Int) (w2 : List ((Int × List Int) × ByteArray)) (c0 : Nat → Int → (List ((Int × List Int) × ByteArray)) → Option R) (c1 : Option R) : Option R :=
  br (decide (0 < w3))
    (bnd (ix w2 0) fun e21 =>
    bnd (upTo (min ((e21.1.2.length : Nat) : Int) 3) e21.1.2.length) fun j22 =>
    bnd (upTo (min ((e21.2.size : Nat) : Int) 66) e21.2.size) fun j23 =>
    c0 1 1 ([((e21.1.1, ((e21.1.2.drop 0).take (j22 - 0))), (e21.2.extract 0 j23))]))
    (c1)
theorem fewNF_s2_eq (fuel : Nat) (k : Nat) (K : Ex → St → Option Out) (w3 : Int) (w2 : List ((Int × List Int) × ByteArray)) : lpN (sub (bodyOf Tryd.prog 47) [1, 1, 0, 1, 0, 0]) (fnX Tryd.prog mode11 T_PeelN fuel 41 0) 1099511627788 [2, 3, 10, 11, 12] (k + 1) ⟨[(2, .s (.slice none 0 0)), (3, .s (.slice none 0 0)), (10, .lt (.pair (.pair (.int .i64) (.sl (.int .u64))) .str) w2), (11, .s (.int .i64 w3)), (12, .s (.int .i64 0))], [], 0, none⟩ K = fewNF_s2 w3 w2 (fun (a44 : Nat) (a45 : Int) (a46 : List ((Int × List Int) × ByteArray)) => lpN (sub (bodyOf Tryd.prog 47) [1, 1, 0, 1, 0, 0]) (fnX Tryd.prog mode11 T_PeelN fuel 41 0) 1099511627788 [2, 3, 10, 11, 12] k ⟨[(2, .s (.slice none 0 0)), (3, .sl 0 3 0 a44), (10, .lt (.pair (.pair (.int .i64) (.sl (.int .u64))) .str) w2), (11, .s (.int .i64 w3)), (12, .s (.int .i64 a45))], [(0, some ⟨88, .lt (.pair (.pair (.int .i64) (.sl (.int .u64))) .str) a46, true⟩)], 1, none⟩ K) (K (.exit 0) ⟨[(2, .s (.slice none 0 0)), (3, .s (.slice none 0 0))], [], 0, none⟩) := by kernel_rfl
noncomputable def fewNF_l1 {R : Type} (fuel : Nat)  (k0 : Nat → (List ((Int × List Int) × ByteArray)) → Option R) (k1 : Option R) : Nat → (List ((Int × List Int) × ByteArray)) → Int → Option R
  | 0, _, _ => none
  | k + 1, w2, w3 =>
    (fewNF_s2 w3 w2 (fun (a44 : Nat) (a45 : Int) (a46 : List ((Int × List Int) × ByteArray)) => (fewNF_l2 fuel w2 w3 (fun (x47 : Nat) (x48 : List ((Int × List Int) × ByteArray)) => k0 x47 x48) k a44 a45 a46)) (k1))
theorem fewNF_l1_eq (fuel : Nat)  (K : Ex → St → Option Out) : ∀ (k : Nat) (w2 : List ((Int × List Int) × ByteArray)) (w3 : Int), lpN (sub (bodyOf Tryd.prog 47) [1, 1, 0, 1, 0, 0]) (fnX Tryd.prog mode11 T_PeelN fuel 41 0) 1099511627788 [2, 3, 10, 11, 12] k ⟨[(2, .s (.slice none 0 0)), (3, .s (.slice none 0 0)), (10, .lt (.pair (.pair (.int .i64) (.sl (.int .u64))) .str) w2), (11, .s (.int .i64 w3)), (12, .s (.int .i64 0))], [], 0, none⟩ K = fewNF_l1 fuel  (fun (y19 : Nat) (y20 : List ((Int × List Int) × ByteArray)) => K (.exit 0) ⟨[(2, .s (.slice none 0 0)), (3, .sl 0 3 0 y19)], [(0, some ⟨88, .lt (.pair (.pair (.int .i64) (.sl (.int .u64))) .str) y20, true⟩)], 1, none⟩) (K (.exit 0) ⟨[(2, .s (.slice none 0 0)), (3, .s (.slice none 0 0))], [], 0, none⟩) k w2 w3
  | 0, _, _ => rfl
  | k + 1, w2, w3 => by
    unfold fewNF_l1
    exact (fewNF_s2_eq fuel k K w3 w2).trans (congr (congr (Eq.refl (fewNF_s2 (R := Out) w3 w2)) (funext fun a44 => funext fun a45 => funext fun a46 => fewNF_l2_eq fuel w2 w3 K k a44 a45 a46)) (rfl))
noncomputable def fewNF_s4 {R : Type} (x52 : List ((Int × List Int) × ByteArray)) (x51 : Nat) (c0 : (List ((Int × List Int) × ByteArray)) → Option R) : Option R :=
  c0 ((x52.drop 0).take x51)
theorem fewNF_s4_eq (fuel : Nat)  (x52 : List ((Int × List Int) × ByteArray)) (x51 : Nat) : (kont (fnX Tryd.prog mode11 T_PeelN fuel 41 0) (bodyOf Tryd.prog 47) [1, 1, 0, 1, 0] 4 (endK Tryd.prog 0 0 47)) (.exit 0) ⟨[(2, .s (.slice none 0 0)), (3, .sl 0 3 0 x51)], [(0, some ⟨88, .lt (.pair (.pair (.int .i64) (.sl (.int .u64))) .str) x52, true⟩)], 1, none⟩ = fewNF_s4 x52 x51 (fun (a53 : List ((Int × List Int) × ByteArray)) => some (.lt (.pair (.pair (.int .i64) (.sl (.int .u64))) .str) a53, [])) := by kernel_rfl
noncomputable def fewNF_s5 {R : Type}  (c0 : Option R) : Option R :=
  c0
theorem fewNF_s5_eq (fuel : Nat)   : (kont (fnX Tryd.prog mode11 T_PeelN fuel 41 0) (bodyOf Tryd.prog 47) [1, 1, 0, 1, 0] 4 (endK Tryd.prog 0 0 47)) (.exit 0) ⟨[(2, .s (.slice none 0 0)), (3, .s (.slice none 0 0))], [], 0, none⟩ = fewNF_s5  (some (.s (.slice none 0 0), [])) := by kernel_rfl
noncomputable def fewNF_s1 {R : Type} (r : List ((Int × List Int) × ByteArray)) (c0 : (List ((Int × List Int) × ByteArray)) → Int → Option R) : Option R :=
  bnd (upTo (min ((r.length : Nat) : Int) 66) r.length) fun j1 =>
  c0 ((r.drop 0).take (j1 - 0)) ((((r.drop 0).take (j1 - 0)).length : Nat) : Int)
theorem fewNF_s1_eq (fuel : Nat)  (r : List ((Int × List Int) × ByteArray)) : callN Tryd.prog mode11 T_PeelN fuel 47 [.lt (.pair (.pair (.int .i64) (.sl (.int .u64))) .str) r] [] = fewNF_s1 r (fun (a49 : List ((Int × List Int) × ByteArray)) (a50 : Int) => lpN (sub (bodyOf Tryd.prog 47) [1, 1, 0, 1, 0, 0]) (fnX Tryd.prog mode11 T_PeelN fuel 41 0) 1099511627788 [2, 3, 10, 11, 12] fuel ⟨[(2, .s (.slice none 0 0)), (3, .s (.slice none 0 0)), (10, .lt (.pair (.pair (.int .i64) (.sl (.int .u64))) .str) a49), (11, .s (.int .i64 a50)), (12, .s (.int .i64 0))], [], 0, none⟩ (kont (fnX Tryd.prog mode11 T_PeelN fuel 41 0) (bodyOf Tryd.prog 47) [1, 1, 0, 1, 0] 4 (endK Tryd.prog 0 0 47))) := by kernel_rfl
noncomputable def fewNF {R : Type} (fuel : Nat) (r : List ((Int × List Int) × ByteArray)) (r0 : (List ((Int × List Int) × ByteArray)) → Option R) (r1 : Option R) : Option R :=
  (fewNF_s1 r (fun (a49 : List ((Int × List Int) × ByteArray)) (a50 : Int) => (fewNF_l1 fuel (fun (x51 : Nat) (x52 : List ((Int × List Int) × ByteArray)) => (fewNF_s4 x52 x51 (fun (a53 : List ((Int × List Int) × ByteArray)) => r0 a53))) ((fewNF_s5 (r1))) fuel a49 a50)))
theorem fewNF_eq (fuel : Nat) (r : List ((Int × List Int) × ByteArray)) : callN Tryd.prog mode11 T_PeelN fuel 47 [.lt (.pair (.pair (.int .i64) (.sl (.int .u64))) .str) r] [] = fewNF fuel r (fun (z0 : List ((Int × List Int) × ByteArray)) => some (.lt (.pair (.pair (.int .i64) (.sl (.int .u64))) .str) z0, [])) (some (.s (.slice none 0 0), [])) := by
  unfold fewNF
  exact (fewNF_s1_eq fuel  r).trans (congr (Eq.refl (fewNF_s1 (R := Out) r)) (funext fun a49 => funext fun a50 => (fewNF_l1_eq fuel  (kont (fnX Tryd.prog mode11 T_PeelN fuel 41 0) (bodyOf Tryd.prog 47) [1, 1, 0, 1, 0] 4 (endK Tryd.prog 0 0 47)) fuel a49 a50).trans (congrFun (congrFun (congrFun (congr (congr (Eq.refl (fewNF_l1 (R := Out) fuel )) (funext fun x51 => funext fun x52 => (fewNF_s4_eq fuel  x52 x51))) ((fewNF_s5_eq fuel  ))) fuel) a49) a50)))
theorem fewN_fact (r : List ((Int × List Int) × ByteArray)) (hg : (decide ((fewES r).length = 0)) = true) : Fact Tryd.prog gTab 47 [.lt (.pair (.pair (.int .i64) (.sl (.int .u64))) .str) r] [] (.s (.slice none 0 0), []) := by
  have hl := of_decide_eq_true hg
  obtain ⟨e1, e2⟩ := few_up r
  have hl : r.take 66 = [] := List.eq_nil_of_length_eq_zero (by rw [few_E, List.length_map] at hl; exact hl)
  refine callN_fact hN hM T_PeelN_ok (n := 69) (mode := mode11) ?_
  rw [fewNF_eq]
  unfold fewNF fewNF_s1
  rw [bnd_of e1, e2, hl]
  rfl
noncomputable def fewN_ent : List V → List Blk → Option (Bool × Out)
  | [w0], [] => (asSl (.pair (.pair (.int .i64) (.sl (.int .u64))) .str) w0).bind fun r => some ((decide ((fewES r).length = 0)), (.s (.slice none 0 0), []))
  | _, _ => none
theorem fewN_ok : ∀ args bs out, fewN_ent args bs = some (true, out) → Fact Tryd.prog gTab 47 args bs out := by
  intro args bs out h
  unfold fewN_ent at h
  split at h
  · rename_i w0
    obtain ⟨r, h_r, h⟩ := Option.bind_eq_some_iff.1 h
    simp only [Option.some.injEq, Prod.mk.injEq] at h
    obtain ⟨hg, rfl⟩ := h
    exact (fewN_fact r hg).args (fun _ _ _ => fun _ h => RVs_two (fun _ h => RV_sl (s := (.pair (.pair (.int .i64) (.sl (.int .u64))) .str)) h_r h) (fun _ h => h) h)
  · cases h
noncomputable def T_fewN : Tbl := Tbl.cons 47 fewN_ent T_PeelN
theorem T_fewN_ok : CallOk Tryd.prog gTab T_fewN := cons_ok T_PeelN_ok fewN_ok
/-! downpour/downpourlaw15.PeelTells -/
noncomputable def lawPeelF_s1 {R : Type} (r : List ((Int × List Int) × ByteArray)) (z : Int) (c0 : Bool → Option R) : Option R :=
  grd (decide ((fewES r).length = 0)) <|
  grd (okE ([]) && decide (List.length (α := Eqn) ([]) ≤ 1000)) <|
  br (!(mayB z ([])))
    (br (((if mayB z [] = true then 0 else 1) : Int) == 1)
      (grd (decide (List.length (α := Int) ([]) ≤ 1000000) && decide (List.length (α := ByteArray) ([]) ≤ 1000000) && shE ([])) <|
      c0 (eqS_li ([]) ([]) && (eqTS ([]) ([]) && eqE ([]) ([]))))
      (c0 false))
    (br (((if mayB z [] = true then 0 else 1) : Int) == 0)
      (grd (mayB (kOf ([])) ([]) && okE ([])) <|
      grd (decide (List.length (α := Int) ([]) ≤ 1000000) && decide (List.length (α := ByteArray) ([]) ≤ 1000000) && shE ([])) <|
      c0 (eqS_li ([]) (pAt (kOf ([])) ([])) && (eqTS ([]) (pTold (kOf ([])) ([])) && eqE ([]) (pLeft (kOf ([])) ([])))))
      (c0 false))
theorem lawPeelF_s1_eq (fuel : Nat)  (r : List ((Int × List Int) × ByteArray)) (z : Int) : callN Tryd.prog mode11 T_fewN fuel 10 [.s (.int .i64 z), .lt (.pair (.pair (.int .i64) (.sl (.int .u64))) .str) r] [] = lawPeelF_s1 r z (fun (a1 : Bool) => some (.s (.bool a1), [])) := by kernel_rfl
noncomputable def lawPeelF {R : Type} (fuel : Nat) (z : Int) (r : List ((Int × List Int) × ByteArray)) (r0 : Bool → Option R) : Option R :=
  (lawPeelF_s1 r z (fun (a1 : Bool) => r0 a1))
theorem lawPeelF_eq (fuel : Nat) (z : Int) (r : List ((Int × List Int) × ByteArray)) : callN Tryd.prog mode11 T_fewN fuel 10 [.s (.int .i64 z), .lt (.pair (.pair (.int .i64) (.sl (.int .u64))) .str) r] [] = lawPeelF fuel z r (fun (z0 : Bool) => some (.s (.bool z0), [])) := by
  unfold lawPeelF
  exact (lawPeelF_s1_eq fuel  r z)
theorem lawPeel_fact (z : Int) (r : List ((Int × List Int) × ByteArray)) (hg : (okE r) = true) : Fact Tryd.prog gTab 10 [.s (.int .i64 z), .lt (.pair (.pair (.int .i64) (.sl (.int .u64))) .str) r] [] (.s (.bool true), []) := by
  have hok := few_Eok hg
  have hlen := few_Elen r
  have hsh := few_Esh r
  by_cases hl : (fewES r).length = 0
  · have hokn : okE [] = true := okE_iff.2 fun e he => by simp at he
    have hshn : shE [] = true := shE_iff.2 ⟨by simp, fun e he => by simp at he⟩
    have hk : kOf [] = 1 := rfl
    have hm1 : mayB 1 [] = true := mayB_iff.2 ⟨by omega, by simp, fun e he => by simp at he⟩
    obtain ⟨p1, p2, p3⟩ := p_nil 1
    have e1 : eqS_li [] [] = true := eqS_li_self []
    have e2 : eqTS [] [] = true := by rw [eqTS_eq]; rfl
    have e3 : eqE [] [] = true := by rw [eqE_eq]; unfold eqEI; exact decide_eq_true rfl
    refine callN_fact hN hM T_fewN_ok (n := 0) (mode := mode11) ?_
    rw [lawPeelF_eq]
    unfold lawPeelF lawPeelF_s1
    rw [grd_of (decide_eq_true hl), grd_of (by rw [hokn]; rfl), hk, p1, p2, p3, hm1, hokn, hshn, e1, e2, e3]
    by_cases hm : mayB z [] = true
    · rw [hm]; rfl
    · rw [Bool.eq_false_iff.2 hm]; rfl
  · refine callN_fact hN hM T_palive_ok (n := 0) (mode := mode11) ?_
    rw [lawPAF_eq]
    unfold lawPAF lawPAF_s1
    generalize fewES r = u at *
    have e1 : ∀ a, eqS_li a a = true := eqS_li_self
    have e2 : ∀ a, eqTS a a = true := fun a => by rw [eqTS_eq]; exact decide_eq_true rfl
    have e3 : ∀ a, eqE a a = true := fun a => by rw [eqE_eq]; unfold eqEI; exact decide_eq_true rfl
    rw [grd_of (by rw [hok]; simp; omega), grd_of (by rw [hok]; simp; omega), br_if]
    by_cases hm : mayB z u = true
    · have hk := k_may hm hl
      obtain ⟨s1, s2, s3⟩ := left_sub hok hm
      rw [if_neg (by simp [hm]), if_pos hm, br_if, if_pos (by decide), hk, grd_of (by rw [hm, hok]; rfl), grd_of (by rw [s1]; simp; omega), e1, e2, e3]
      rfl
    · have hA : pAt z u = [] := by rw [pAt_eq]; unfold pAtI; rw [if_neg hm]
      have hT : pTold z u = [] := by rw [pTold_eq]; unfold pToldI; rw [if_neg hm]
      have hL : pLeft z u = [] := by rw [pLeft_eq]; unfold pLeftI; rw [if_neg hm]
      have hshn : shE [] = true := shE_iff.2 ⟨by simp, fun e he => by simp at he⟩
      rw [if_pos (by simp [hm]), if_neg hm, br_if, if_pos (by decide), hA, hT, hL, grd_of (by rw [hshn]; rfl), e1, e2, e3]
      rfl
noncomputable def lawPeel_ent : List V → List Blk → Option (Bool × Out)
  | [.s (.int .i64 z), w0], [] => (asSl (.pair (.pair (.int .i64) (.sl (.int .u64))) .str) w0).bind fun r => some ((okE r), (.s (.bool true), []))
  | _, _ => none
theorem lawPeel_ok : ∀ args bs out, lawPeel_ent args bs = some (true, out) → Fact Tryd.prog gTab 10 args bs out := by
  intro args bs out h
  unfold lawPeel_ent at h
  split at h
  · rename_i z w0
    obtain ⟨r, h_r, h⟩ := Option.bind_eq_some_iff.1 h
    simp only [Option.some.injEq, Prod.mk.injEq] at h
    obtain ⟨hg, rfl⟩ := h
    exact (lawPeel_fact z r hg).args (fun _ _ _ => fun _ h => RVs_two (fun _ h => h) (fun _ h => RVs_two (fun _ h => RV_sl (s := (.pair (.pair (.int .i64) (.sl (.int .u64))) .str)) h_r h) (fun _ h => h) h) h)
  · cases h
noncomputable def T_lawPeel : Tbl := Tbl.cons 10 lawPeel_ent T_fewN
theorem T_lawPeel_ok : CallOk Tryd.prog gTab T_lawPeel := cons_ok T_fewN_ok lawPeel_ok
end Go.Proofs.YtleagoeimkcekaaDoor
