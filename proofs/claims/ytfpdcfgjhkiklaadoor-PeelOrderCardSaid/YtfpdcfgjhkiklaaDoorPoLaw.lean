/- Equations that are peeled in any order: the law. -/
import Derived.Test.YtfpdcfgjhkiklaaDoorPmTab
import Derived.KernelRfl
import Derived.Test.YtfpdcfgjhkiklaaDoorProg
import Derived.Test.YtfpdcfgjhkiklaaDoorPeel
set_option autoImplicit false
set_option maxRecDepth 100000
set_option maxHeartbeats 4000000
set_option linter.unusedVariables false
set_option linter.unusedSimpArgs false
namespace Go.Proofs.YtfpdcfgjhkiklaaDoor
open Go Go.PM Go.Proofs Go.Shelf Go.PM.Row Go.PM.Bits Go.PM.Bit Go.PM.Blk
def mode13 : FuncId → Nat := fun f => bif Nat.beq f 95 then 2 else bif Nat.beq f 96 then 2 else 0
/-! The document's peeling. -/
theorem shE_iff {a : List Eqn} : shE a = true ↔ a.length ≤ 1000000 ∧ ∀ e, e ∈ a → e.1.2.length ≤ 1000000 := by rw [shE_eq]; unfold shEI; simp
theorem one_iff {n : Int} {ws : List Int} (hok : okW ws = true) (h : rtS n ws = true) : 0 ≤ oneS n ws ↔ (plcR n ws).length = 1 := by
  rw [← pl_val hok h, oneS_eq]
  unfold oneI
  by_cases hl : (plS ws).length = 1
  · rw [if_pos ⟨h, hl⟩]
    have hne : plc (val ws) n.toNat ≠ [] := by
      rw [← pl_plc hok h]; intro e; rw [e] at hl; simp at hl
    have := plc_head hne
    rw [← pl_plc hok h] at this
    exact ⟨fun _ => hl, fun _ => this.1⟩
  · rw [if_neg (fun g => hl g.2)]
    exact ⟨fun g => by omega, fun g => absurd g hl⟩
theorem one_at {n : Int} {ws : List Int} (hok : okW ws = true) (h : 0 ≤ oneS n ws) : ix (plcR n ws) 0 = some (oneS n ws) := by
  have hr := (one_spec hok h).1
  have hl := (one_iff hok hr).1 h
  rw [← pl_val hok hr] at hl ⊢
  rw [oneS_eq]
  unfold oneI
  rw [if_pos ⟨hr, hl⟩]
  cases hp : plS ws with
  | nil => rw [hp] at hl; simp at hl
  | cons x t => rfl
theorem rt_guard {n : Int} {ws : List Int} (hok : okW ws = true) (h : rtS n ws = true) : (okW ws && decide (n ≤ 64 * (ws.length : Int)) && decide (ws.length ≤ 1000)) = true := by
  have h1 := rt_le h
  have h2 := rt_lens h
  have h3 := nw_cast (rtS_iff.1 h).1.1
  rw [hok]
  simp
  omega
theorem rtE_iff {r : List Eqn} : rtE r = true ↔ ∀ e, e ∈ r → okW e.1.2 = true ∧ rtS e.1.1 e.1.2 = true := by rw [rtE_eq]; unfold rtEI; simp
theorem PInv.rtE {z : Int} {r : List Eqn} {l : List Int} (h : PInv z r l) : rtE r = true := rtE_iff.2 fun e he => (h.2.2.1 e he).2
theorem allOk_iff {r : List Eqn} {i : Int} {s : ByteArray} : allOk r i s = true ↔ r.length ≤ 1000 ∧ 0 ≤ i ∧ s.size ≤ 64 ∧ ∀ e, e ∈ r → okW e.1.2 = true ∧ rtS e.1.1 e.1.2 = true ∧ i < e.1.1 ∧ e.2.size = s.size := by rw [allOk_eq]; unfold allI; simp [and_assoc]
theorem places_ge : ∀ (l : List Int) (j : Int) (y : Int), y ∈ placesFrom l j → j ≤ y
  | [], j, y, h => by simp [placesFrom] at h
  | x :: t, j, y, h => by
    rw [placesFrom] at h
    split at h
    · rcases List.mem_cons.1 h with rfl | h
      · omega
      · have := places_ge t (j + 1) y h; omega
    · have := places_ge t (j + 1) y h; omega
theorem putA_small {P : List Int} {j : Int} (h : ∀ y, y ∈ P → j < y) : putA P j = j :: P := by
  cases P with
  | nil => rfl
  | cons y t => rw [putA, if_pos (h y List.mem_cons_self)]
theorem putA_set : ∀ (l : List Int) (i : Nat) (j : Int), i < l.length → l.getD i 0 ≠ 1 → putA (placesFrom l j) (j + (i : Int)) = placesFrom (l.set i 1) j
  | [], i, j, h, _ => by simp at h
  | x :: t, 0, j, h, hx => by
    have hx : x ≠ 1 := hx
    rw [List.set_cons_zero, placesFrom, placesFrom, if_neg hx, if_pos rfl, show j + ((0 : Nat) : Int) = j by omega]
    exact putA_small fun y hy => by have := places_ge t (j + 1) y hy; omega
  | x :: t, i + 1, j, h, hx => by
    have ih := putA_set t i (j + 1) (by simpa using h) hx
    rw [List.set_cons_succ, placesFrom, placesFrom, show j + ((i + 1 : Nat) : Int) = j + 1 + (i : Int) by omega]
    by_cases hc : x = 1
    · rw [if_pos hc, if_pos hc, putA, if_neg (by omega), ih]
    · rw [if_neg hc, if_neg hc, ih]
theorem putT_small {P : List Int} {Q : List ByteArray} {j : Int} {s : ByteArray} (hl : Q.length = P.length) (h : ∀ y, y ∈ P → j < y) : putT P Q j s = s :: Q := by
  cases P with
  | nil => cases Q with
    | nil => rfl
    | cons q u => simp at hl
  | cons y t => cases Q with
    | nil => simp at hl
    | cons q u => rw [putT, if_pos (h y List.mem_cons_self)]
theorem putT_set (s : ByteArray) : ∀ (l : List Int) (t : List ByteArray) (i : Nat) (j : Int), t.length = l.length → i < l.length → l.getD i 0 ≠ 1 → putT (placesFrom l j) (toldFrom l t) (j + (i : Int)) s = toldFrom (l.set i 1) (t.set i s)
  | [], t, i, j, _, h, _ => by simp at h
  | x :: l, [], i, j, ht, _, _ => by simp at ht
  | x :: l, y :: t, 0, j, ht, h, hx => by
    have hx : x ≠ 1 := hx
    rw [List.set_cons_zero, List.set_cons_zero, placesFrom, toldFrom, toldFrom, if_neg hx, if_neg hx, if_pos rfl, show j + ((0 : Nat) : Int) = j by omega]
    exact putT_small (places_len l t (j + 1) (by simpa using ht)) fun y hy => by have := places_ge l (j + 1) y hy; omega
  | x :: l, y :: t, i + 1, j, ht, h, hx => by
    have ih := putT_set s l t i (j + 1) (by simpa using ht) (by simpa using h) hx
    rw [List.set_cons_succ, List.set_cons_succ, placesFrom, toldFrom, toldFrom, show j + ((i + 1 : Nat) : Int) = j + 1 + (i : Int) by omega]
    by_cases hc : x = 1
    · rw [if_pos hc, if_pos hc, if_pos hc, putT, if_neg (by omega), ih]
    · rw [if_neg hc, if_neg hc, if_neg hc, ih]
theorem places_zero : ∀ (m : Nat) (j : Int), placesFrom (List.replicate m 0) j = []
  | 0, j => rfl
  | m + 1, j => by rw [List.replicate_succ, placesFrom, if_neg (by decide), places_zero m]
theorem told_zero : ∀ (m : Nat) (t : List ByteArray), toldFrom (List.replicate m 0) t = []
  | 0, t => by cases t <;> rfl
  | m + 1, [] => rfl
  | m + 1, y :: t => by rw [List.replicate_succ, toldFrom, if_neg (by decide), told_zero m]
theorem leftR {e : Eqn} (hok : okW e.1.2 = true) (h : rtS e.1.1 e.1.2 = true) {R : Type} (hs : e.2.size ≤ 64) (x y : Option R) : (if decide (((((plcR e.1.1 e.1.2).length : Nat) : Int) : Int) > 0) = true then x else grd (decide (e.2.size ≤ 1000000)) (br (!(nought e.2)) x y)) = if leftB e = true then x else y := by
  rw [grd_of (by simp; omega), br_if, leftB_eq, ← pl_val hok h]
  unfold leftI
  rw [if_pos h]
  by_cases g : 0 < (((plS e.1.2).length : Nat) : Int)
  · simp only [g, gt_iff_lt, decide_true, Bool.true_or, if_true]
  · simp only [g, gt_iff_lt, decide_false, Bool.false_or, Bool.false_eq_true, if_false]
/-! The law on peeling. -/
def cutE (e : Eqn) : Eqn := ((e.1.1, e.1.2.take 3), e.2.extract 0 (min e.2.size 66))
theorem few_E (r : List Eqn) : fewES r = (r.take 66).map cutE := by rw [fewES_eq]; rfl
theorem few_Elen (r : List Eqn) : (fewES r).length ≤ 66 := by rw [few_E, List.length_map, List.length_take]; omega
theorem few_Eok {r : List Eqn} (h : okE r = true) : okE (fewES r) = true := by
  rw [few_E]
  refine okE_iff.2 fun e he => ?_
  obtain ⟨e0, he0, rfl⟩ := List.mem_map.1 he
  exact okW_iff.2 (ok_take (okW_iff.1 (okE_iff.1 h e0 (List.mem_of_mem_take he0))) 3)
theorem few_Esh (r : List Eqn) (e : Eqn) (h : e ∈ fewES r) : e.1.2.length ≤ 3 := by
  rw [few_E] at h
  obtain ⟨e0, he0, rfl⟩ := List.mem_map.1 h
  show (e0.1.2.take 3).length ≤ 3
  rw [List.length_take]; omega
theorem cut_e (e : Eqn) : ((e.1.1, ((e.1.2.drop 0).take (min e.1.2.length 3 - 0))), e.2.extract 0 (min e.2.size 66)) = cutE e := by
  unfold cutE
  rw [List.drop_zero, Nat.sub_zero]
  have : e.1.2.take (min e.1.2.length 3) = e.1.2.take 3 := by
    by_cases h : e.1.2.length ≤ 3
    · rw [Nat.min_eq_left h, List.take_length, List.take_of_length_le h]
    · rw [Nat.min_eq_right (by omega)]
  rw [this]
theorem up_min (n m : Nat) : upTo (min ((n : Nat) : Int) (m : Int)) n = some (min n m) := by rw [upTo_of (by omega) (by omega)]; congr 1; omega
theorem step_nil : stepS [] = -1 := by rw [stepS_eq]; rfl
theorem p_nil (z : Int) : pAt z [] = [] ∧ pTold z [] = [] ∧ pLeft z [] = [] := by
  have h : pEnd z [] = ([], List.replicate z.toNat ByteArray.empty, List.replicate z.toNat 0) := by
    rw [pEnd_eq]; unfold pEndI; exact peel_stop (by rw [step_nil]; decide)
  rw [pAt_eq, pTold_eq, pLeft_eq]
  unfold pAtI pToldI pLeftI
  rw [h]
  dsimp only
  rw [places_zero, told_zero]
  simp
theorem k_may {z : Int} {r : List Eqn} (hm : mayB z r = true) (hr : r.length ≠ 0) : kOf r = z := by
  obtain ⟨_, _, h⟩ := mayB_iff.1 hm
  unfold kOf
  rw [if_neg hr]
  cases r with
  | nil => simp at hr
  | cons e t => exact (h e List.mem_cons_self).1
theorem left_sub {z : Int} {r : List Eqn} (hok : okE r = true) (hm : mayB z r = true) : shE (pLeft z r) = true ∧ (pAt z r).length ≤ 64 ∧ (pTold z r).length ≤ 64 := by
  obtain ⟨⟨z1, z2⟩, hx, hr⟩ := mayB_iff.1 hm
  have hI := pinv_start hok hm
  have hl := peel_end (f := 64) hI (t := List.replicate z.toNat ByteArray.empty) (by simp)
  rw [pLeft_eq, pAt_eq, pTold_eq]
  unfold pLeftI pAtI pToldI
  rw [if_pos hm, if_pos hm, if_pos hm, pEnd_eq]
  unfold pEndI
  obtain ⟨hJ, h1, h2⟩ := hl
  have hll := hJ.2.1
  have hp := places_le (peelN 64 r (List.replicate z.toNat ByteArray.empty) (List.replicate z.toNat 0)).2.2 0
  have hq := places_len (peelN 64 r (List.replicate z.toNat ByteArray.empty) (List.replicate z.toNat 0)).2.2 (peelN 64 r (List.replicate z.toNat ByteArray.empty) (List.replicate z.toNat 0)).2.1 0 (by omega)
  refine ⟨shE_iff.2 ⟨?_, fun e he => ?_⟩, by omega, by omega⟩
  · have := List.length_filter_le leftB (peelN 64 r (List.replicate z.toNat ByteArray.empty) (List.replicate z.toNat 0)).1
    omega
  · have := rt_le (hJ.2.2.1 e ((List.mem_filter.1 he).1)).2.2
    omega
/-! downpour/downpourlaw15.alive -/
noncomputable def paliveF_s1 {R : Type}  (c0 : Bool → Option R) : Option R :=
  grd (okE ([((2, [3]), (⟨#[98]⟩ : ByteArray)), ((2, [1]), (⟨#[97]⟩ : ByteArray))]) && decide (1 ≤ ([((2, [3]), (⟨#[98]⟩ : ByteArray)), ((2, [1]), (⟨#[97]⟩ : ByteArray))]).length) && decide (([((2, [3]), (⟨#[98]⟩ : ByteArray)), ((2, [1]), (⟨#[97]⟩ : ByteArray))]).length ≤ 1000)) <|
  br (((if mayB 2 ([((2, [3]), (⟨#[98]⟩ : ByteArray)), ((2, [1]), (⟨#[97]⟩ : ByteArray))]) = true then 0 else 1) : Int) == 0)
    (br (((((pAt 2 ([((2, [3]), (⟨#[98]⟩ : ByteArray)), ((2, [1]), (⟨#[97]⟩ : ByteArray))])).length : Nat) : Int) : Int) == 2)
      (br (((((pTold 2 ([((2, [3]), (⟨#[98]⟩ : ByteArray)), ((2, [1]), (⟨#[97]⟩ : ByteArray))])).length : Nat) : Int) : Int) == 2)
        (bnd (ix (pTold 2 ([((2, [3]), (⟨#[98]⟩ : ByteArray)), ((2, [1]), (⟨#[97]⟩ : ByteArray))])) 0) fun e1 =>
        br (eqS e1 (⟨#[97]⟩ : ByteArray))
          (bnd (ix (pTold 2 ([((2, [3]), (⟨#[98]⟩ : ByteArray)), ((2, [1]), (⟨#[97]⟩ : ByteArray))])) 1) fun e2 =>
          c0 (eqS e2 (⟨#[3]⟩ : ByteArray)))
          (c0 false))
        (c0 false))
      (c0 false))
    (c0 false)
theorem paliveF_s1_eq (fuel : Nat)   : callN Tryd.prog mode13 T_Peel fuel 42 [] [] = paliveF_s1  (fun a3 => some (vB a3, [])) := by kernel_rfl
noncomputable def paliveF {R : Type} (fuel : Nat)  (r0 : Bool → Option R) : Option R :=
  (paliveF_s1 (fun a3 => r0 a3))
theorem paliveF_eq (fuel : Nat)  : callN Tryd.prog mode13 T_Peel fuel 42 [] [] = paliveF fuel  (fun z0 => some (.s (.bool z0), [])) := by
  unfold paliveF
  exact (paliveF_s1_eq fuel  )
theorem al1 : oneS 2 [3] = -1 := by
  rw [oneS_eq]; unfold oneI; rw [rtS_eq, plS_eq]; unfold rtI plI; rw [nw_eq]; decide +kernel
theorem al2 : oneS 2 [1] = 0 := by
  rw [oneS_eq]; unfold oneI; rw [rtS_eq, plS_eq]; unfold rtI plI; rw [nw_eq]; decide +kernel
theorem al3 : oneS 2 [2] = 1 := by
  rw [oneS_eq]; unfold oneI; rw [rtS_eq, plS_eq]; unfold rtI plI; rw [nw_eq]; decide +kernel
theorem al4 : oneS 2 [0] = -1 := by
  rw [oneS_eq]; unfold oneI; rw [rtS_eq, plS_eq]; unfold rtI plI; rw [nw_eq]; decide +kernel
theorem al5 : outE ((2, [3]), (⟨#[98]⟩ : ByteArray)) 0 (⟨#[97]⟩ : ByteArray) = ((2, [2]), (⟨#[3]⟩ : ByteArray)) := by
  rw [outE_eq]; unfold outI
  rw [getS_eq, xorN_eq, xorW_eq]; unfold getI xorNI xorWI
  rw [xorE_eq, ofOk_eq, ofS_eq, xorT_eq]; unfold xorEI okOfI ofI xorTI
  rw [rtS_eq, bok_eq, xb_eq]; unfold rtI bokI xbI
  rw [nw_eq]
  decide +kernel
theorem al6 : outE ((2, [1]), (⟨#[97]⟩ : ByteArray)) 0 (⟨#[97]⟩ : ByteArray) = ((2, [0]), (⟨#[0]⟩ : ByteArray)) := by
  rw [outE_eq]; unfold outI
  rw [getS_eq, xorN_eq, xorW_eq]; unfold getI xorNI xorWI
  rw [xorE_eq, ofOk_eq, ofS_eq, xorT_eq]; unfold xorEI okOfI ofI xorTI
  rw [rtS_eq, bok_eq, xb_eq]; unfold rtI bokI xbI
  rw [nw_eq]
  decide +kernel
theorem al7 : outE ((2, [2]), (⟨#[3]⟩ : ByteArray)) 1 (⟨#[3]⟩ : ByteArray) = ((2, [0]), (⟨#[0]⟩ : ByteArray)) := by
  rw [outE_eq]; unfold outI
  rw [getS_eq, xorN_eq, xorW_eq]; unfold getI xorNI xorWI
  rw [xorE_eq, ofOk_eq, ofS_eq, xorT_eq]; unfold xorEI okOfI ofI xorTI
  rw [rtS_eq, bok_eq, xb_eq]; unfold rtI bokI xbI
  rw [nw_eq]
  decide +kernel
theorem al8 : outE ((2, [0]), (⟨#[0]⟩ : ByteArray)) 1 (⟨#[3]⟩ : ByteArray) = ((2, [0]), (⟨#[0]⟩ : ByteArray)) := by
  rw [outE_eq]; unfold outI
  rw [getS_eq, xorN_eq, xorW_eq]; unfold getI xorNI xorWI
  rw [xorE_eq, ofOk_eq, ofS_eq, xorT_eq]; unfold xorEI okOfI ofI xorTI
  rw [rtS_eq, bok_eq, xb_eq]; unfold rtI bokI xbI
  rw [nw_eq]
  decide +kernel
abbrev q0 : List Eqn := [((2, [3]), (⟨#[98]⟩ : ByteArray)), ((2, [1]), (⟨#[97]⟩ : ByteArray))]
abbrev q1 : List Eqn := [((2, [2]), (⟨#[3]⟩ : ByteArray)), ((2, [0]), (⟨#[0]⟩ : ByteArray))]
abbrev q2 : List Eqn := [((2, [0]), (⟨#[0]⟩ : ByteArray)), ((2, [0]), (⟨#[0]⟩ : ByteArray))]
theorem st0 : stepS q0 = 1 := by rw [stepS_eq]; simp [stepI, stepFrom, al1, al2]
theorem st1 : stepS q1 = 0 := by rw [stepS_eq]; simp [stepI, stepFrom, al3]
theorem st2 : stepS q2 = -1 := by rw [stepS_eq]; simp [stepI, stepFrom, al4]
theorem al_end : pEnd 2 q0 = (q2, [(⟨#[97]⟩ : ByteArray), (⟨#[3]⟩ : ByteArray)], [1, 1]) := by
  rw [pEnd_eq]; unfold pEndI
  rw [show (64 : Nat) = 62 + 1 + 1 from rfl, peelN, st0, if_neg (by decide)]
  have e0 : q0.getD (1 : Int).toNat noE = ((2, [1]), (⟨#[97]⟩ : ByteArray)) := rfl
  have m0 : (q0.map fun e => outE e 0 (⟨#[97]⟩ : ByteArray)) = q1 := by simp [al5, al6]
  rw [e0]
  dsimp only
  rw [al2, m0, peelN, st1, if_neg (by decide)]
  have e1 : q1.getD (0 : Int).toNat noE = ((2, [2]), (⟨#[3]⟩ : ByteArray)) := rfl
  have m1 : (q1.map fun e => outE e 1 (⟨#[3]⟩ : ByteArray)) = q2 := by simp [al7, al8]
  rw [e1]
  dsimp only
  rw [al3, m1, peel_stop (by rw [st2]; decide)]
  rfl
theorem al_may : mayB 2 q0 = true := by
  rw [mayB_eq]; unfold mayI; rw [rtS_eq]; unfold rtI; rw [nw_eq]; decide +kernel
theorem al_ok : okE q0 = true := by
  rw [okE_eq]; unfold okEI; rw [okW_eq]; unfold okI; decide +kernel
theorem palive_fact  : Fact Tryd.prog gTab 42 [] [] (.s (.bool true), []) := by
  refine callN_fact hN hM T_Peel_ok (n := 0) (mode := mode13) ?_
  rw [paliveF_eq]
  unfold paliveF paliveF_s1
  have hA : pAt 2 q0 = [0, 1] := by rw [pAt_eq]; unfold pAtI; rw [if_pos al_may, al_end]; rfl
  have hT : pTold 2 q0 = [(⟨#[97]⟩ : ByteArray), (⟨#[3]⟩ : ByteArray)] := by rw [pTold_eq]; unfold pToldI; rw [if_pos al_may, al_end]; rfl
  rw [al_ok, grd_of (by rfl), if_pos al_may, hA, hT]
  have e1 : eqS (⟨#[97]⟩ : ByteArray) (⟨#[97]⟩ : ByteArray) = true := eqS_iff.2 rfl
  have e2 : eqS (⟨#[3]⟩ : ByteArray) (⟨#[3]⟩ : ByteArray) = true := eqS_iff.2 rfl
  have i0 : ix [(⟨#[97]⟩ : ByteArray), (⟨#[3]⟩ : ByteArray)] 0 = some (⟨#[97]⟩ : ByteArray) := rfl
  have i1 : ix [(⟨#[97]⟩ : ByteArray), (⟨#[3]⟩ : ByteArray)] 1 = some (⟨#[3]⟩ : ByteArray) := rfl
  rw [bnd_of i0, e1, br_tt, bnd_of i1, e2]
  rfl
noncomputable def palive_ent : List V → List Blk → Option (Bool × Out)
  | [], [] => some (true, (.s (.bool true), []))
  | _, _ => none
theorem palive_ok : ∀ args bs out, palive_ent args bs = some (true, out) → Fact Tryd.prog gTab 42 args bs out := by
  intro args bs out h
  unfold palive_ent at h
  split at h
  · simp only [Option.some.injEq, Prod.mk.injEq] at h
    obtain ⟨_, rfl⟩ := h
    exact palive_fact 
  · cases h
noncomputable def T_palive : Tbl := Tbl.cons 42 palive_ent T_Peel
theorem T_palive_ok : CallOk Tryd.prog gTab T_palive := cons_ok T_Peel_ok palive_ok
/-! slices.Clone[[]downpour/api.Equation,downpour/api.Equation] -/
noncomputable def cloneNF_s1 {R : Type}  (c0 : Option R) : Option R :=
  c0
theorem cloneNF_s1_eq (fuel : Nat)   : callN Tryd.prog mode13 T_palive fuel 95 [vN] [] = cloneNF_s1  (some (vN, [])) := by kernel_rfl
noncomputable def cloneNF {R : Type} (fuel : Nat)  (r0 : Option R) : Option R :=
  (cloneNF_s1 (r0))
theorem cloneNF_eq (fuel : Nat)  : callN Tryd.prog mode13 T_palive fuel 95 [.s (.slice none 0 0)] [] = cloneNF fuel  (some (.s (.slice none 0 0), [])) := by
  unfold cloneNF
  exact (cloneNF_s1_eq fuel  )
theorem cloneN_fact  : Fact Tryd.prog gTab 95 [.s (.slice none 0 0)] [] (.s (.slice none 0 0), []) := by
  refine callN_fact hN hM T_palive_ok (n := 0) (mode := mode13) ?_
  rw [cloneNF_eq]
  rfl
noncomputable def cloneN_ent : List V → List Blk → Option (Bool × Out)
  | [.s (.slice none 0 0)], [] => some (true, (.s (.slice none 0 0), []))
  | _, _ => none
theorem cloneN_ok : ∀ args bs out, cloneN_ent args bs = some (true, out) → Fact Tryd.prog gTab 95 args bs out := by
  intro args bs out h
  unfold cloneN_ent at h
  split at h
  · simp only [Option.some.injEq, Prod.mk.injEq] at h
    obtain ⟨_, rfl⟩ := h
    exact cloneN_fact 
  · cases h
noncomputable def T_cloneN : Tbl := Tbl.cons 95 cloneN_ent T_palive
theorem T_cloneN_ok : CallOk Tryd.prog gTab T_cloneN := cons_ok T_palive_ok cloneN_ok
/-! downpour/peel.Peel -/
noncomputable abbrev qd0 : Nat × Option Blk := (0, some ⟨74, .agg [vN, vN, vN], true⟩)
noncomputable abbrev qd1 (fuel : Nat) : Ctx Out := (fnX Tryd.prog mode13 T_cloneN fuel 145 0)
noncomputable abbrev qd2 : Nat × Option Blk := (1, some ⟨141, .agg [.ptr 2 3 0 0], true⟩)
noncomputable abbrev qd3 : List (Nat × V) := [(4, .ptr 0 3 0 0), (5, vI 0), (7, .ptr 1 1 0 0), (8, .ptr 5 1 0 0), (38, .fn (.func 97) [.ptr 2 3 0 0] [])]
noncomputable abbrev qd4 : Code := (bodyOf Tryd.prog 41)
noncomputable abbrev qd5 : Nat × Option Blk := (5, some ⟨145, .agg [.fn (.func 96) [.ptr 2 3 0 0] []], true⟩)
noncomputable abbrev qd6 : List (Nat × V) := [(4, .ptr 0 3 0 0), (5, vI 0), (13, .ptr 1 3 0 0), (117, vN), (118, vI 0), (119, vI 0)]
noncomputable abbrev qd7 : List (Nat × V) := [(4, .ptr 0 3 0 0), (5, vI 0), (7, .ptr 1 1 0 0), (13, .ptr 5 3 0 0)]
noncomputable abbrev qd8 : Nat := 44601490376292058848932126031174737695482032
noncomputable abbrev qd9 : Code := (sub qd4 [1, 1, 1, 1, 1, 1, 0, 1, 0, 0])
noncomputable abbrev qd10 : Nat × Option Blk := (5, some ⟨74, .agg [vN, vN, vN], true⟩)
noncomputable abbrev qd11 : List (Nat × V) := [(4, .ptr 0 3 0 0), (5, vI 0), (13, .ptr 1 3 0 0)]
noncomputable abbrev qd12 : Nat := 22300745198530623141535718272648361505988656
noncomputable abbrev qd13 : Code := (sub qd4 [1, 1, 1, 1, 1, 1, 1, 0, 1, 0, 0])
noncomputable abbrev qd14 : Nat × Option Blk := (1, some ⟨74, .agg [vN, vN, vN], true⟩)
noncomputable abbrev qd15 : List Nat := [4, 5, 7, 13, 86, 87, 88]
noncomputable abbrev qd16 : Code := (sub qd4 [1, 1, 1, 1, 0, 1, 0, 0])
noncomputable abbrev qd17 : Code := (sub qd4 [1, 1, 1, 1, 0, 1, 0, 1])
noncomputable abbrev qd18 : List Nat := [1, 1, 1, 1, 1, 1, 1, 0, 1, 0]
noncomputable def PeelNF_s2 {R : Type} (w4 : List ByteArray) (w5 : List Int) (n2 n3 : Nat) (c0 : List ByteArray → List Int → Option R) : Option R :=
  grd (okE ([]) && decide (List.length (α := Eqn) ([]) ≤ 1000)) <|
  br (decide (((stepS ([])) : Int) < 0))
    (c0 w4 w5)
    (none)
theorem PeelNF_s2_eq (fuel k : Nat) (K : Ex → St → Option Out) (w4 : List ByteArray) (w5 : List Int) (n2 n3 : Nat) : lpN (sub (bodyOf Tryd.prog 97) [0, 0]) (itX Tryd.prog mode13 T_cloneN fuel 3 18 7 6 (roundK (evC qd16) (evC qd17) (qd1 fuel) #[39] 7253554917686675536617344 qd3)) 0 [0, 1] (k + 1) ⟨[(0, .ptr 2 3 0 0), (1, .yl 6)], [qd0, qd2, (2, some ⟨144, .agg [vN, .sl 3 1 0 n2, .sl 4 1 0 n3], true⟩), (3, some ⟨9, .ls w4, true⟩), (4, bL 3 w5), qd5, (6, none)], 7, none⟩ K = PeelNF_s2 w4 w5 n2 n3 (fun a8 a9 => K .ret ⟨[], [qd0, qd2, (2, some ⟨144, .agg [vN, .sl 3 1 0 n2, .sl 4 1 0 n3], true⟩), (3, some ⟨9, .ls a8, true⟩), (4, bL 3 a9), qd5, (6, none)], 7, none⟩) := by kernel_rfl
noncomputable def PeelNF_l1 {R : Type} (fuel n2 n3 : Nat) (k0 : List ByteArray → List Int → Option R) : Nat → List ByteArray → List Int → Option R
  | 0, _, _ => none
  | k + 1, w4, w5 =>
    (PeelNF_s2 w4 w5 n2 n3 (fun a8 a9 => k0 a8 a9))
theorem PeelNF_l1_eq (fuel n2 n3 : Nat) (K : Ex → St → Option Out) : ∀ (k : Nat) (w4 : List ByteArray) (w5 : List Int), lpN (sub (bodyOf Tryd.prog 97) [0, 0]) (itX Tryd.prog mode13 T_cloneN fuel 3 18 7 6 (roundK (evC qd16) (evC qd17) (qd1 fuel) #[39] 7253554917686675536617344 qd3)) 0 [0, 1] k ⟨[(0, .ptr 2 3 0 0), (1, .yl 6)], [qd0, qd2, (2, some ⟨144, .agg [vN, .sl 3 1 0 n2, .sl 4 1 0 n3], true⟩), (3, some ⟨9, .ls w4, true⟩), (4, bL 3 w5), qd5, (6, none)], 7, none⟩ K = PeelNF_l1 fuel n2 n3 (fun y6 y7 => K .ret ⟨[], [qd0, qd2, (2, some ⟨144, .agg [vN, .sl 3 1 0 n2, .sl 4 1 0 n3], true⟩), (3, some ⟨9, .ls y6, true⟩), (4, bL 3 y7), qd5, (6, none)], 7, none⟩) k w4 w5
  | 0, _, _ => rfl
  | k + 1, w4, w5 => by
    unfold PeelNF_l1
    exact (PeelNF_s2_eq fuel k K w4 w5 n2 n3)
noncomputable def PeelNF_s5 {R : Type} (w0 w1 : Int) (n3 : Nat) (x0 w2 : List Int) (w3 n2 : Nat) (x1 w4 : List ByteArray) (w5 : Nat) (c0 c1 : Int → Nat → Nat → List Int → List ByteArray → Option R) (c2 : Nat → Nat → List Int → List ByteArray → Option R) : Option R :=
  br (decide (w0 < w1))
    (bnd (below w0 n3) fun j0 =>
    bnd (x0[(0 + j0)]?) fun e0 =>
    br (e0 == 1)
      (grd (Nat.beq w2.length w3) <|
      grd (okN (w3 + 1) 8) <|
      bnd (below w0 n2) fun j1 =>
      bnd (x1[(0 + j1)]?) fun e1 =>
      grd (Nat.beq w4.length w5) <|
      grd (okN (w5 + 1) 16) <|
      c0 (IntKind.i64.wrap (w0 + 1)) ((w2 ++ [w0]).length) ((w4 ++ [e1]).length) (w2 ++ [w0]) (w4 ++ [e1]))
      (c1 (IntKind.i64.wrap (w0 + 1)) w3 w5 w2 w4))
    (c2 w3 w5 w2 w4)
theorem PeelNF_s5_eq (fuel k : Nat) (K : Ex → St → Option Out) (w0 w1 : Int) (n3 : Nat) (x0 w2 : List Int) (w3 n2 : Nat) (x1 w4 : List ByteArray) (w5 : Nat) : lpN qd9 (qd1 fuel) qd8 qd15 (k + 1) ⟨[(4, .ptr 0 3 0 0), (5, vI 0), (7, .ptr 1 1 0 0), (13, .ptr 5 3 0 0), (86, .sl 4 1 0 n3), (87, vI w1), (88, vI w0)], [qd0, qd2, (2, some ⟨144, .agg [vN, .sl 3 1 0 n2, .sl 4 1 0 n3], true⟩), (3, some ⟨9, .ls x1, true⟩), (4, bL 3 x0), (5, some ⟨74, .agg [.sl 6 1 0 w3, .sl 7 1 0 w5, vN], true⟩), (6, bL 3 w2), (7, some ⟨9, .ls w4, true⟩)], 8, none⟩ K = PeelNF_s5 w0 w1 n3 x0 w2 w3 n2 x1 w4 w5 (fun a0 a1 a2 a3 a4 => lpN qd9 (qd1 fuel) qd8 qd15 k ⟨[(4, .ptr 0 3 0 0), (5, vI 0), (7, .ptr 1 1 0 0), (13, .ptr 5 3 0 0), (86, .sl 4 1 0 n3), (87, vI w1), (88, vI a0)], [qd0, qd2, (2, some ⟨144, .agg [vN, .sl 3 1 0 n2, .sl 4 1 0 n3], true⟩), (3, some ⟨9, .ls x1, true⟩), (4, bL 3 x0), (5, some ⟨74, .agg [.sl 6 1 0 a1, .sl 7 1 0 a2, vN], true⟩), (6, bL 3 a3), (7, some ⟨9, .ls a4, true⟩)], 8, none⟩ K) (fun a5 a6 a7 a8 a9 => lpN qd9 (qd1 fuel) qd8 qd15 k ⟨[(4, .ptr 0 3 0 0), (5, vI 0), (7, .ptr 1 1 0 0), (13, .ptr 5 3 0 0), (86, .sl 4 1 0 n3), (87, vI w1), (88, vI a5)], [qd0, qd2, (2, some ⟨144, .agg [vN, .sl 3 1 0 n2, .sl 4 1 0 n3], true⟩), (3, some ⟨9, .ls x1, true⟩), (4, bL 3 x0), (5, some ⟨74, .agg [.sl 6 1 0 a6, .sl 7 1 0 a7, vN], true⟩), (6, bL 3 a8), (7, some ⟨9, .ls a9, true⟩)], 8, none⟩ K) (fun a10 a11 a12 a13 => K (.exit 4) ⟨qd7, [qd0, qd2, (2, some ⟨144, .agg [vN, .sl 3 1 0 n2, .sl 4 1 0 n3], true⟩), (3, some ⟨9, .ls x1, true⟩), (4, bL 3 x0), (5, some ⟨74, .agg [.sl 6 1 0 a10, .sl 7 1 0 a11, vN], true⟩), (6, bL 3 a12), (7, some ⟨9, .ls a13, true⟩)], 8, none⟩) := by kernel_rfl
noncomputable def PeelNF_l3 {R : Type} (fuel n3 : Nat) (w0 : Int) (n2 : Nat) (x0 : List ByteArray) (x1 : List Int) (k0 : Nat → Nat → List Int → List ByteArray → Option R) : Nat → Int → Nat → Nat → List Int → List ByteArray → Option R
  | 0, _, _, _, _, _ => none
  | k + 1, w1, w2, w3, w4, w5 =>
    (PeelNF_s5 w1 w0 n3 x1 w4 w2 n2 x0 w5 w3 (fun a0 a1 a2 a3 a4 => ( PeelNF_l3 fuel n3 w0 n2 x0 x1 k0 k a0 a1 a2 a3 a4 )) (fun a5 a6 a7 a8 a9 => ( PeelNF_l3 fuel n3 w0 n2 x0 x1 k0 k a5 a6 a7 a8 a9 )) (fun a10 a11 a12 a13 => k0 a10 a11 a12 a13))
theorem PeelNF_l3_eq (fuel n3 : Nat) (w0 : Int) (n2 : Nat) (x0 : List ByteArray) (x1 : List Int) (K : Ex → St → Option Out) : ∀ (k : Nat) (w1 : Int) (w2 w3 : Nat) (w4 : List Int) (w5 : List ByteArray), lpN qd9 (qd1 fuel) qd8 qd15 k ⟨[(4, .ptr 0 3 0 0), (5, vI 0), (7, .ptr 1 1 0 0), (13, .ptr 5 3 0 0), (86, .sl 4 1 0 n3), (87, vI w0), (88, vI w1)], [qd0, qd2, (2, some ⟨144, .agg [vN, .sl 3 1 0 n2, .sl 4 1 0 n3], true⟩), (3, some ⟨9, .ls x0, true⟩), (4, bL 3 x1), (5, some ⟨74, .agg [.sl 6 1 0 w2, .sl 7 1 0 w3, vN], true⟩), (6, bL 3 w4), (7, some ⟨9, .ls w5, true⟩)], 8, none⟩ K = PeelNF_l3 fuel n3 w0 n2 x0 x1 (fun y0 y1 y2 y3 => K (.exit 4) ⟨qd7, [qd0, qd2, (2, some ⟨144, .agg [vN, .sl 3 1 0 n2, .sl 4 1 0 n3], true⟩), (3, some ⟨9, .ls x0, true⟩), (4, bL 3 x1), (5, some ⟨74, .agg [.sl 6 1 0 y0, .sl 7 1 0 y1, vN], true⟩), (6, bL 3 y2), (7, some ⟨9, .ls y3, true⟩)], 8, none⟩) k w1 w2 w3 w4 w5
  | 0, _, _, _, _, _ => rfl
  | k + 1, w1, w2, w3, w4, w5 => by
    unfold PeelNF_l3
    exact (PeelNF_s5_eq fuel k K w1 w0 n3 x1 w4 w2 n2 x0 w5 w3).trans (congr (congr (congr (Eq.refl (PeelNF_s5 (R := Out) w1 w0 n3 x1 w4 w2 n2 x0 w5 w3)) (funext fun a0 => funext fun a1 => funext fun a2 => funext fun a3 => funext fun a4 => PeelNF_l3_eq fuel n3 w0 n2 x0 x1 K k a0 a1 a2 a3 a4)) (funext fun a5 => funext fun a6 => funext fun a7 => funext fun a8 => funext fun a9 => PeelNF_l3_eq fuel n3 w0 n2 x0 x1 K k a5 a6 a7 a8 a9)) (rfl))
noncomputable def PeelNF_s4 {R : Type} (w0 w1 : Int) (n3 : Nat) (x0 : List Int) (n2 : Nat) (x1 : List ByteArray) (c0 : Int → Nat → Nat → List Int → List ByteArray → Option R) (c1 : Int → Int → Option R) (c2 : Option R) : Option R :=
  br (decide (w0 < w1))
    (bnd (below w0 n3) fun j0 =>
    bnd (x0[(0 + j0)]?) fun e0 =>
    br (e0 == 1)
      (bnd (below w0 n2) fun j1 =>
      bnd (x1[(0 + j1)]?) fun e1 =>
      c0 (IntKind.i64.wrap (w0 + 1)) 1 1 ([w0]) ([e1]))
      (c1 w1 (IntKind.i64.wrap (w0 + 1))))
    (c2)
theorem PeelNF_s4_eq (fuel k : Nat) (K : Ex → St → Option Out) (w0 w1 : Int) (n3 : Nat) (x0 : List Int) (n2 : Nat) (x1 : List ByteArray) : lpN qd9 (qd1 fuel) qd8 qd15 (k + 1) ⟨[(4, .ptr 0 3 0 0), (5, vI 0), (7, .ptr 1 1 0 0), (13, .ptr 5 3 0 0), (86, .sl 4 1 0 n3), (87, vI w1), (88, vI w0)], [qd0, qd2, (2, some ⟨144, .agg [vN, .sl 3 1 0 n2, .sl 4 1 0 n3], true⟩), (3, some ⟨9, .ls x1, true⟩), (4, bL 3 x0), qd10], 6, none⟩ K = PeelNF_s4 w0 w1 n3 x0 n2 x1 (fun a0 a1 a2 a3 a4 => lpN qd9 (qd1 fuel) qd8 qd15 k ⟨[(4, .ptr 0 3 0 0), (5, vI 0), (7, .ptr 1 1 0 0), (13, .ptr 5 3 0 0), (86, .sl 4 1 0 n3), (87, vI w1), (88, vI a0)], [qd0, qd2, (2, some ⟨144, .agg [vN, .sl 3 1 0 n2, .sl 4 1 0 n3], true⟩), (3, some ⟨9, .ls x1, true⟩), (4, bL 3 x0), (5, some ⟨74, .agg [.sl 6 1 0 a1, .sl 7 1 0 a2, vN], true⟩), (6, bL 3 a3), (7, some ⟨9, .ls a4, true⟩)], 8, none⟩ K) (fun a5 a6 => lpN qd9 (qd1 fuel) qd8 qd15 k ⟨[(4, .ptr 0 3 0 0), (5, vI 0), (7, .ptr 1 1 0 0), (13, .ptr 5 3 0 0), (86, .sl 4 1 0 n3), (87, vI a5), (88, vI a6)], [qd0, qd2, (2, some ⟨144, .agg [vN, .sl 3 1 0 n2, .sl 4 1 0 n3], true⟩), (3, some ⟨9, .ls x1, true⟩), (4, bL 3 x0), qd10], 6, none⟩ K) (K (.exit 4) ⟨qd7, [qd0, qd2, (2, some ⟨144, .agg [vN, .sl 3 1 0 n2, .sl 4 1 0 n3], true⟩), (3, some ⟨9, .ls x1, true⟩), (4, bL 3 x0), qd10], 6, none⟩) := by kernel_rfl
noncomputable def PeelNF_l2 {R : Type} (fuel n3 n2 : Nat) (x0 : List ByteArray) (x1 : List Int) (k0 : Nat → Nat → List Int → List ByteArray → Option R) (k1 : Option R) : Nat → Int → Int → Option R
  | 0, _, _ => none
  | k + 1, w0, w1 =>
    (PeelNF_s4 w1 w0 n3 x1 n2 x0 (fun a0 a1 a2 a3 a4 => (PeelNF_l3 fuel n3 w0 n2 x0 x1 (fun x2 x3 x4 x5 => k0 x2 x3 x4 x5) k a0 a1 a2 a3 a4)) (fun a5 a6 => ( PeelNF_l2 fuel n3 n2 x0 x1 k0 k1 k a5 a6 )) (k1))
theorem PeelNF_l2_eq (fuel n3 n2 : Nat) (x0 : List ByteArray) (x1 : List Int) (K : Ex → St → Option Out) : ∀ (k : Nat) (w0 w1 : Int), lpN qd9 (qd1 fuel) qd8 qd15 k ⟨[(4, .ptr 0 3 0 0), (5, vI 0), (7, .ptr 1 1 0 0), (13, .ptr 5 3 0 0), (86, .sl 4 1 0 n3), (87, vI w0), (88, vI w1)], [qd0, qd2, (2, some ⟨144, .agg [vN, .sl 3 1 0 n2, .sl 4 1 0 n3], true⟩), (3, some ⟨9, .ls x0, true⟩), (4, bL 3 x1), qd10], 6, none⟩ K = PeelNF_l2 fuel n3 n2 x0 x1 (fun y0 y1 y2 y3 => K (.exit 4) ⟨qd7, [qd0, qd2, (2, some ⟨144, .agg [vN, .sl 3 1 0 n2, .sl 4 1 0 n3], true⟩), (3, some ⟨9, .ls x0, true⟩), (4, bL 3 x1), (5, some ⟨74, .agg [.sl 6 1 0 y0, .sl 7 1 0 y1, vN], true⟩), (6, bL 3 y2), (7, some ⟨9, .ls y3, true⟩)], 8, none⟩) (K (.exit 4) ⟨qd7, [qd0, qd2, (2, some ⟨144, .agg [vN, .sl 3 1 0 n2, .sl 4 1 0 n3], true⟩), (3, some ⟨9, .ls x0, true⟩), (4, bL 3 x1), qd10], 6, none⟩) k w0 w1
  | 0, _, _ => rfl
  | k + 1, w0, w1 => by
    unfold PeelNF_l2
    exact (PeelNF_s4_eq fuel k K w1 w0 n3 x1 n2 x0).trans (congr (congr (congr (Eq.refl (PeelNF_s4 (R := Out) w1 w0 n3 x1 n2 x0)) (funext fun a0 => funext fun a1 => funext fun a2 => funext fun a3 => funext fun a4 => PeelNF_l3_eq fuel n3 w0 n2 x0 x1 K k a0 a1 a2 a3 a4)) (funext fun a5 => funext fun a6 => PeelNF_l2_eq fuel n3 n2 x0 x1 K k a5 a6)) (rfl))
noncomputable def PeelNF_s7 {R : Type} (x0 x1 : Nat) (x2 : List Int) (x3 : List ByteArray) (c0 : Option R) : Option R :=
  c0
theorem PeelNF_s7_eq (fuel k : Nat) (K : Ex → St → Option Out) (x0 x1 : Nat) (x2 : List Int) (x3 : List ByteArray) : lpN qd13 (qd1 fuel) qd12 [4, 5, 13, 117, 118, 119] (k + 1) ⟨qd6, [qd0, (1, some ⟨74, .agg [.sl 2 1 0 x0, .sl 3 1 0 x1, vN], true⟩), (2, bL 3 x2), (3, some ⟨9, .ls x3, true⟩)], 4, none⟩ K = PeelNF_s7 x0 x1 x2 x3 (K (.exit 6) ⟨qd11, [qd0, (1, some ⟨74, .agg [.sl 2 1 0 x0, .sl 3 1 0 x1, vN], true⟩), (2, bL 3 x2), (3, some ⟨9, .ls x3, true⟩)], 4, none⟩) := by kernel_rfl
noncomputable def PeelNF_l4 {R : Type} (fuel x0 x1 : Nat) (x2 : List Int) (x3 : List ByteArray) (k0 : Option R) : Nat → Option R
  | 0 => none
  | k + 1 =>
    (PeelNF_s7 x0 x1 x2 x3 (k0))
theorem PeelNF_l4_eq (fuel x0 x1 : Nat) (x2 : List Int) (x3 : List ByteArray) (K : Ex → St → Option Out) : ∀ (k : Nat) , lpN qd13 (qd1 fuel) qd12 [4, 5, 13, 117, 118, 119] k ⟨qd6, [qd0, (1, some ⟨74, .agg [.sl 2 1 0 x0, .sl 3 1 0 x1, vN], true⟩), (2, bL 3 x2), (3, some ⟨9, .ls x3, true⟩)], 4, none⟩ K = PeelNF_l4 fuel x0 x1 x2 x3 (K (.exit 6) ⟨qd11, [qd0, (1, some ⟨74, .agg [.sl 2 1 0 x0, .sl 3 1 0 x1, vN], true⟩), (2, bL 3 x2), (3, some ⟨9, .ls x3, true⟩)], 4, none⟩) k 
  | 0 => rfl
  | k + 1 => by
    unfold PeelNF_l4
    exact (PeelNF_s7_eq fuel k K x0 x1 x2 x3)
noncomputable def PeelNF_s8 {R : Type} (x0 : List Int) (x1 : Nat) (x2 : List ByteArray) (x3 : Nat) (c0 : List Int → List ByteArray → Int → Option R) : Option R :=
  c0 ((x0.drop 0).take x1) ((x2.drop 0).take x3) 0
theorem PeelNF_s8_eq (fuel : Nat)  (x0 : List Int) (x1 : Nat) (x2 : List ByteArray) (x3 : Nat) : (kont (qd1 fuel) qd4 qd18 48 (endK Tryd.prog 0 0 41)) (.exit 6) ⟨qd11, [qd0, (1, some ⟨74, .agg [.sl 2 1 0 x1, .sl 3 1 0 x3, vN], true⟩), (2, bL 3 x0), (3, some ⟨9, .ls x2, true⟩)], 4, none⟩ = PeelNF_s8 x0 x1 x2 x3 (fun a0 a1 a2 => some (.tup [.agg [vL a0, .ls a1, vN], vI a2], [])) := by kernel_rfl
noncomputable def PeelNF_s6 {R : Type} (n2 n3 : Nat) (x0 : List ByteArray) (x1 : List Int) (x2 x3 : Nat) (x4 : List Int) (x5 : List ByteArray) (c0 : Option R) : Option R :=
  c0
theorem PeelNF_s6_eq (fuel : Nat)  (n2 n3 : Nat) (x0 : List ByteArray) (x1 : List Int) (x2 x3 : Nat) (x4 : List Int) (x5 : List ByteArray) : (kont (qd1 fuel) qd4 [1, 1, 1, 1, 1, 1, 0, 1, 0] 48 (endK Tryd.prog 0 0 41)) (.exit 4) ⟨qd7, [qd0, qd2, (2, some ⟨144, .agg [vN, .sl 3 1 0 n2, .sl 4 1 0 n3], true⟩), (3, some ⟨9, .ls x0, true⟩), (4, bL 3 x1), (5, some ⟨74, .agg [.sl 6 1 0 x2, .sl 7 1 0 x3, vN], true⟩), (6, bL 3 x4), (7, some ⟨9, .ls x5, true⟩)], 8, none⟩ = PeelNF_s6 n2 n3 x0 x1 x2 x3 x4 x5 (lpN qd13 (qd1 fuel) qd12 [4, 5, 13, 117, 118, 119] fuel ⟨qd6, [qd0, (1, some ⟨74, .agg [.sl 2 1 0 x2, .sl 3 1 0 x3, vN], true⟩), (2, bL 3 x4), (3, some ⟨9, .ls x5, true⟩)], 4, none⟩ (kont (qd1 fuel) qd4 qd18 48 (endK Tryd.prog 0 0 41))) := by kernel_rfl
noncomputable def PeelNF_s10 {R : Type}  (c0 : Option R) : Option R :=
  c0
theorem PeelNF_s10_eq (fuel k : Nat) (K : Ex → St → Option Out)  : lpN qd13 (qd1 fuel) qd12 [4, 5, 13, 117, 118, 119] (k + 1) ⟨qd6, [qd0, qd14], 2, none⟩ K = PeelNF_s10  (K (.exit 6) ⟨qd11, [qd0, qd14], 2, none⟩) := by kernel_rfl
noncomputable def PeelNF_l5 {R : Type} (fuel : Nat)  (k0 : Option R) : Nat → Option R
  | 0 => none
  | k + 1 =>
    (PeelNF_s10 (k0))
theorem PeelNF_l5_eq (fuel : Nat)  (K : Ex → St → Option Out) : ∀ (k : Nat) , lpN qd13 (qd1 fuel) qd12 [4, 5, 13, 117, 118, 119] k ⟨qd6, [qd0, qd14], 2, none⟩ K = PeelNF_l5 fuel  (K (.exit 6) ⟨qd11, [qd0, qd14], 2, none⟩) k 
  | 0 => rfl
  | k + 1 => by
    unfold PeelNF_l5
    exact (PeelNF_s10_eq fuel k K )
noncomputable def PeelNF_s11 {R : Type}  (c0 : Int → Option R) : Option R :=
  c0 0
theorem PeelNF_s11_eq (fuel : Nat)   : (kont (qd1 fuel) qd4 qd18 48 (endK Tryd.prog 0 0 41)) (.exit 6) ⟨qd11, [qd0, qd14], 2, none⟩ = PeelNF_s11  (fun a0 => some (.tup [.agg [vN, vN, vN], vI a0], [])) := by kernel_rfl
noncomputable def PeelNF_s9 {R : Type} (n2 n3 : Nat) (x0 : List ByteArray) (x1 : List Int) (c0 : Option R) : Option R :=
  c0
theorem PeelNF_s9_eq (fuel : Nat)  (n2 n3 : Nat) (x0 : List ByteArray) (x1 : List Int) : (kont (qd1 fuel) qd4 [1, 1, 1, 1, 1, 1, 0, 1, 0] 48 (endK Tryd.prog 0 0 41)) (.exit 4) ⟨qd7, [qd0, qd2, (2, some ⟨144, .agg [vN, .sl 3 1 0 n2, .sl 4 1 0 n3], true⟩), (3, some ⟨9, .ls x0, true⟩), (4, bL 3 x1), qd10], 6, none⟩ = PeelNF_s9 n2 n3 x0 x1 (lpN qd13 (qd1 fuel) qd12 [4, 5, 13, 117, 118, 119] fuel ⟨qd6, [qd0, qd14], 2, none⟩ (kont (qd1 fuel) qd4 qd18 48 (endK Tryd.prog 0 0 41))) := by kernel_rfl
noncomputable def PeelNF_s3 {R : Type} (n3 n2 : Nat) (x0 : List ByteArray) (x1 : List Int) (c0 : Int → Int → Option R) : Option R :=
  c0 ((n3 : Nat) : Int) 0
theorem PeelNF_s3_eq (fuel : Nat)  (n3 n2 : Nat) (x0 : List ByteArray) (x1 : List Int) : (kont (itX Tryd.prog mode13 T_cloneN fuel 3 18 7 6 (roundK (evC qd16) (evC qd17) (qd1 fuel) #[39] 7253554917686675536617344 qd3)) (bodyOf Tryd.prog 97) [0] 0 (itE (behind ⟨qd3, [qd0, qd2, (2, some ⟨144, .agg [vN, .sl 3 1 0 n2, .sl 4 1 0 n3], true⟩), (3, some ⟨9, .ls (List.replicate n2 ByteArray.empty), true⟩), (4, some ⟨3, vL (List.replicate n3 (0 : Int)), true⟩), qd5], 6, none⟩ (kont (qd1 fuel) qd4 [1, 1, 1, 1, 0, 1, 0] 48 (endK Tryd.prog 0 0 41))))) .ret ⟨[], [qd0, qd2, (2, some ⟨144, .agg [vN, .sl 3 1 0 n2, .sl 4 1 0 n3], true⟩), (3, some ⟨9, .ls x0, true⟩), (4, bL 3 x1), qd5, (6, none)], 7, none⟩ = PeelNF_s3 n3 n2 x0 x1 (fun a0 a1 => lpN qd9 (qd1 fuel) qd8 qd15 fuel ⟨[(4, .ptr 0 3 0 0), (5, vI 0), (7, .ptr 1 1 0 0), (13, .ptr 5 3 0 0), (86, .sl 4 1 0 n3), (87, vI a0), (88, vI a1)], [qd0, qd2, (2, some ⟨144, .agg [vN, .sl 3 1 0 n2, .sl 4 1 0 n3], true⟩), (3, some ⟨9, .ls x0, true⟩), (4, bL 3 x1), qd10], 6, none⟩ (kont (qd1 fuel) qd4 [1, 1, 1, 1, 1, 1, 0, 1, 0] 48 (endK Tryd.prog 0 0 41))) := by kernel_rfl
noncomputable def PeelNF_s1 {R : Type} (z : Int) (c0 : Int → Option R) (c1 : List ByteArray → List Int → Nat → Nat → Option R) : Option R :=
  grd (okE ([])) <|
  br (((if mayB z ([]) = true then 0 else 1) : Int) != 0)
    (c0 (if mayB z ([]) = true then 0 else 1))
    (bnd (mkN z z 16) fun n2 =>
    bnd (mkN z z 8) fun n3 =>
    c1 (List.replicate n2 ByteArray.empty) (List.replicate n3 (0 : Int)) n2 n3)
theorem PeelNF_s1_eq (fuel : Nat)  (z : Int) : callN Tryd.prog mode13 T_cloneN fuel 41 [vI z, vN] [] = PeelNF_s1 z (fun a1 => some (.tup [.agg [vN, vN, vN], vI a1], [])) (fun a0 a2 n2 n3 => lpN (sub (bodyOf Tryd.prog 97) [0, 0]) (itX Tryd.prog mode13 T_cloneN fuel 3 18 7 6 (roundK (evC qd16) (evC qd17) (qd1 fuel) #[39] 7253554917686675536617344 qd3)) 0 [0, 1] fuel ⟨[(0, .ptr 2 3 0 0), (1, .yl 6)], [qd0, qd2, (2, some ⟨144, .agg [vN, .sl 3 1 0 n2, .sl 4 1 0 n3], true⟩), (3, some ⟨9, .ls a0, true⟩), (4, bL 3 a2), qd5, (6, none)], 7, none⟩ (kont (itX Tryd.prog mode13 T_cloneN fuel 3 18 7 6 (roundK (evC qd16) (evC qd17) (qd1 fuel) #[39] 7253554917686675536617344 qd3)) (bodyOf Tryd.prog 97) [0] 0 (itE (behind ⟨qd3, [qd0, qd2, (2, some ⟨144, .agg [vN, .sl 3 1 0 n2, .sl 4 1 0 n3], true⟩), (3, some ⟨9, .ls (List.replicate n2 ByteArray.empty), true⟩), (4, some ⟨3, vL (List.replicate n3 (0 : Int)), true⟩), qd5], 6, none⟩ (kont (qd1 fuel) qd4 [1, 1, 1, 1, 0, 1, 0] 48 (endK Tryd.prog 0 0 41)))))) := by kernel_rfl
noncomputable def PeelNF {R : Type} (fuel : Nat) (z : Int) (r0 : Int → Option R) (r1 : List Int → List ByteArray → Int → Option R) : Option R :=
  (PeelNF_s1 z (fun a1 => r0 a1) (fun a0 a2 n2 n3 => (PeelNF_l1 fuel n2 n3 (fun x0 x1 => (PeelNF_s3 n3 n2 x0 x1 (fun a3 a4 => (PeelNF_l2 fuel n3 n2 x0 x1 (fun x2 x3 x4 x5 => (PeelNF_s6 n2 n3 x0 x1 x2 x3 x4 x5 ((PeelNF_l4 fuel x2 x3 x4 x5 ((PeelNF_s8 x4 x2 x5 x3 (fun a5 a6 a7 => r1 a5 a6 a7))) fuel)))) ((PeelNF_s9 n2 n3 x0 x1 ((PeelNF_l5 fuel ((PeelNF_s11 (fun a8 => r0 a8))) fuel)))) fuel a3 a4)))) fuel a0 a2)))
theorem PeelNF_eq (fuel : Nat) (z : Int) : callN Tryd.prog mode13 T_cloneN fuel 41 [.s (.int .i64 z), .s (.slice none 0 0)] [] = PeelNF fuel z (fun z0 => some (.tup [.agg [.s (.slice none 0 0), .s (.slice none 0 0), .s (.slice none 0 0)], .s (.int .i64 z0)], [])) (fun z0 z1 z2 => some (.tup [.agg [.li .i64 z0, .ls z1, .s (.slice none 0 0)], .s (.int .i64 z2)], [])) := by
  unfold PeelNF
  exact (PeelNF_s1_eq fuel  z).trans (congr (congr (Eq.refl (PeelNF_s1 (R := Out) z)) (rfl)) (funext fun a0 => funext fun a1 => funext fun n2 => funext fun n3 => (PeelNF_l1_eq fuel n2 n3 (kont (itX Tryd.prog mode13 T_cloneN fuel 3 18 7 6 (roundK (evC qd16) (evC qd17) (qd1 fuel) #[39] 7253554917686675536617344 qd3)) (bodyOf Tryd.prog 97) [0] 0 (itE (behind ⟨qd3, [qd0, qd2, (2, some ⟨144, .agg [vN, .sl 3 1 0 n2, .sl 4 1 0 n3], true⟩), (3, some ⟨9, .ls (List.replicate n2 ByteArray.empty), true⟩), (4, some ⟨3, vL (List.replicate n3 (0 : Int)), true⟩), qd5], 6, none⟩ (kont (qd1 fuel) qd4 [1, 1, 1, 1, 0, 1, 0] 48 (endK Tryd.prog 0 0 41))))) fuel a0 a1).trans (congrFun (congrFun (congrFun (congr (Eq.refl (PeelNF_l1 (R := Out) fuel n2 n3)) (funext fun x0 => funext fun x1 => (PeelNF_s3_eq fuel  n3 n2 x0 x1).trans (congr (Eq.refl (PeelNF_s3 (R := Out) n3 n2 x0 x1)) (funext fun a2 => funext fun a3 => (PeelNF_l2_eq fuel n3 n2 x0 x1 (kont (qd1 fuel) qd4 [1, 1, 1, 1, 1, 1, 0, 1, 0] 48 (endK Tryd.prog 0 0 41)) fuel a2 a3).trans (congrFun (congrFun (congrFun (congr (congr (Eq.refl (PeelNF_l2 (R := Out) fuel n3 n2 x0 x1)) (funext fun x2 => funext fun x3 => funext fun x4 => funext fun x5 => (PeelNF_s6_eq fuel  n2 n3 x0 x1 x2 x3 x4 x5).trans (congr (Eq.refl (PeelNF_s6 (R := Out) n2 n3 x0 x1 x2 x3 x4 x5)) ((PeelNF_l4_eq fuel x2 x3 x4 x5 (kont (qd1 fuel) qd4 qd18 48 (endK Tryd.prog 0 0 41)) fuel ).trans (congrFun (congr (Eq.refl (PeelNF_l4 (R := Out) fuel x2 x3 x4 x5)) ((PeelNF_s8_eq fuel  x4 x2 x5 x3))) fuel))))) ((PeelNF_s9_eq fuel  n2 n3 x0 x1).trans (congr (Eq.refl (PeelNF_s9 (R := Out) n2 n3 x0 x1)) ((PeelNF_l5_eq fuel  (kont (qd1 fuel) qd4 qd18 48 (endK Tryd.prog 0 0 41)) fuel ).trans (congrFun (congr (Eq.refl (PeelNF_l5 (R := Out) fuel )) ((PeelNF_s11_eq fuel  ))) fuel))))) fuel) a2) a3))))) fuel) a0) a1)))
theorem PeelN_loop {R : Type} (fuel m : Nat) (hm : m ≤ 64) (t : List ByteArray) (k0 : Nat → Nat → List Int → List ByteArray → Option R) (k1 : Option R) : ∀ (k j : Nat), j ≤ m → m < j + k → PeelNF_l2 fuel m m t (List.replicate m 0) k0 k1 k (m : Int) (j : Int) = k1
  | 0, j, h1, h2 => by omega
  | k + 1, j, h1, h2 => by
    unfold PeelNF_l2 PeelNF_s4
    rw [br_if]
    by_cases hc : j < m
    · have eb : below (j : Int) m = some j := by rw [below_of (by omega) (by omega)]; rfl
      have el : (List.replicate m (0 : Int))[0 + j]? = some 0 := by rw [Nat.zero_add, List.getElem?_replicate, if_pos hc]
      rw [if_pos (by simpa using hc), bnd_of eb, bnd_of el, br_if, if_neg (by decide), wrap_i64 (by omega) (by omega), show (j : Int) + 1 = ((j + 1 : Nat) : Int) by omega]
      exact PeelN_loop fuel m hm t k0 k1 k (j + 1) (by omega) (by omega)
    · rw [if_neg (by simpa using hc)]
theorem PeelN_fact (z : Int) : Fact Tryd.prog gTab 41 [.s (.int .i64 z), .s (.slice none 0 0)] [] (.tup [.agg [.s (.slice none 0 0), .s (.slice none 0 0), .s (.slice none 0 0)], .s (.int .i64 (if mayB z [] = true then 0 else 1))], []) := by
  have hok : okE [] = true := okE_iff.2 fun e he => by simp at he
  refine callN_fact hN hM T_cloneN_ok (n := 69 + 1) (mode := mode13) ?_
  rw [PeelNF_eq]
  unfold PeelNF PeelNF_s1
  rw [grd_of hok]
  by_cases hm : mayB z [] = true
  · obtain ⟨⟨z1, z2⟩, _⟩ := mayB_iff.1 hm
    obtain ⟨m, rfl⟩ : ∃ m : Nat, z = (m : Int) := ⟨z.toNat, by omega⟩
    rw [if_pos hm, br_if, if_neg (by decide), bnd_of (mkN_of (by omega) (by omega) (by omega)), bnd_of (mkN_of (by omega) (by omega) (by omega)), Int.toNat_natCast]
    unfold PeelNF_l1 PeelNF_s2
    dsimp only
    rw [grd_of (by rw [hok]; rfl), step_nil, br_if, if_pos (by decide)]
    unfold PeelNF_s3
    dsimp only
    have := fun k0 k1 => PeelN_loop (R := Out) (69 + 1) m (by omega) (List.replicate m ByteArray.empty) k0 k1 (69 + 1) 0 (by omega) (by omega)
    refine (this _ _).trans ?_
    rfl
  · rw [if_neg hm, br_if, if_pos (by decide)]
noncomputable def PeelN_ent : List V → List Blk → Option (Bool × Out)
  | [.s (.int .i64 z), .s (.slice none 0 0)], [] => some (true, (.tup [.agg [.s (.slice none 0 0), .s (.slice none 0 0), .s (.slice none 0 0)], .s (.int .i64 (if mayB z [] = true then 0 else 1))], []))
  | _, _ => none
theorem PeelN_ok : ∀ args bs out, PeelN_ent args bs = some (true, out) → Fact Tryd.prog gTab 41 args bs out := by
  intro args bs out h
  unfold PeelN_ent at h
  split at h
  · rename_i z
    simp only [Option.some.injEq, Prod.mk.injEq] at h
    obtain ⟨_, rfl⟩ := h
    exact PeelN_fact z
  · cases h
noncomputable def T_PeelN : Tbl := Tbl.cons 41 PeelN_ent T_cloneN
theorem T_PeelN_ok : CallOk Tryd.prog gTab T_PeelN := cons_ok T_cloneN_ok PeelN_ok
def mode14 : FuncId → Nat := fun f => 0
def eqI_li (a b : List Int) : Bool := decide (a = b)
noncomputable def eqS_li : List Int → List Int → Bool := Classical.choose (⟨eqI_li, rfl⟩ : ∃ f, f = eqI_li)
theorem eqS_li_eq : eqS_li = eqI_li := Classical.choose_spec (⟨eqI_li, rfl⟩ : ∃ f, f = eqI_li)
theorem eqS_li_self (a : List Int) : eqS_li a a = true := by rw [eqS_li_eq]; simp [eqI_li]
/-! downpour/downpourref01.Numbers -/
noncomputable abbrev qd19 (fuel : Nat) : Ctx Out := (fnX Tryd.prog mode14 T_PeelN fuel 26 0)
noncomputable def refNumbersF_s2 {R : Type} (w6 w5 : Int) (a b : List Int) (c0 : Option R) (c1 : Int → Int → Option R) (c2 : Option R) : Option R :=
  br (decide (w6 < w5))
    (bnd (ix a w6) fun e9 =>
    bnd (ix b w6) fun e0 =>
    br (e9 != e0)
      (c0)
      (c1 w5 (IntKind.i64.wrap (w6 + 1))))
    (c2)
theorem refNumbersF_s2_eq (fuel k : Nat) (K : Ex → St → Option Out) (w6 w5 : Int) (a b : List Int) : lpN (sub (bodyOf Tryd.prog 36) [1, 1, 0, 1, 0, 0]) (qd19 fuel) 16 [0, 1, 4, 12, 13] (k + 1) ⟨[(0, vL a), (1, vL b), (4, vB false), (12, vI w5), (13, vI w6)], [], 0, none⟩ K = refNumbersF_s2 w6 w5 a b (K .ret ⟨[(4, vB false)], [], 0, none⟩) (fun a0 a1 => lpN (sub (bodyOf Tryd.prog 36) [1, 1, 0, 1, 0, 0]) (qd19 fuel) 16 [0, 1, 4, 12, 13] k ⟨[(0, vL a), (1, vL b), (4, vB false), (12, vI a0), (13, vI a1)], [], 0, none⟩ K) (K (.exit 0) ⟨[(4, vB false)], [], 0, none⟩) := by kernel_rfl
noncomputable def refNumbersF_l1 {R : Type} (fuel : Nat) (a b : List Int) (k0 k1 : Option R) : Nat → Int → Int → Option R
  | 0, _, _ => none
  | k + 1, w5, w6 =>
    (refNumbersF_s2 w6 w5 a b (k0) (fun a0 a1 => ( refNumbersF_l1 fuel a b k0 k1 k a0 a1 )) (k1))
theorem refNumbersF_l1_eq (fuel : Nat) (a b : List Int) (K : Ex → St → Option Out) : ∀ (k : Nat) (w5 w6 : Int), lpN (sub (bodyOf Tryd.prog 36) [1, 1, 0, 1, 0, 0]) (qd19 fuel) 16 [0, 1, 4, 12, 13] k ⟨[(0, vL a), (1, vL b), (4, vB false), (12, vI w5), (13, vI w6)], [], 0, none⟩ K = refNumbersF_l1 fuel a b (K .ret ⟨[(4, vB false)], [], 0, none⟩) (K (.exit 0) ⟨[(4, vB false)], [], 0, none⟩) k w5 w6
  | 0, _, _ => rfl
  | k + 1, w5, w6 => by
    unfold refNumbersF_l1
    exact (refNumbersF_s2_eq fuel k K w6 w5 a b).trans (congr (congr (congr (Eq.refl (refNumbersF_s2 (R := Out) w6 w5 a b)) (rfl)) (funext fun a0 => funext fun a1 => refNumbersF_l1_eq fuel a b K k a0 a1)) (rfl))
noncomputable def refNumbersF_s3 {R : Type}  (c0 : Bool → Option R) : Option R :=
  c0 false
theorem refNumbersF_s3_eq (fuel : Nat)   : (kont (qd19 fuel) (bodyOf Tryd.prog 36) [1, 1, 0, 1, 0] 16 (endK Tryd.prog 0 0 36)) .ret ⟨[(4, vB false)], [], 0, none⟩ = refNumbersF_s3  (fun a0 => some (vB a0, [])) := by kernel_rfl
noncomputable def refNumbersF_s4 {R : Type}  (c0 : Bool → Option R) : Option R :=
  c0 true
theorem refNumbersF_s4_eq (fuel : Nat)   : (kont (qd19 fuel) (bodyOf Tryd.prog 36) [1, 1, 0, 1, 0] 16 (endK Tryd.prog 0 0 36)) (.exit 0) ⟨[(4, vB false)], [], 0, none⟩ = refNumbersF_s4  (fun a0 => some (vB a0, [])) := by kernel_rfl
noncomputable def refNumbersF_s1 {R : Type} (a b : List Int) (c0 : Bool → Option R) (c1 : Int → Int → Option R) : Option R :=
  br ((((a.length : Nat) : Int) : Int) != ((b.length : Nat) : Int))
    (c0 false)
    (c1 ((a.length : Nat) : Int) 0)
theorem refNumbersF_s1_eq (fuel : Nat)  (a b : List Int) : callN Tryd.prog mode14 T_PeelN fuel 36 [vL a, vL b] [] = refNumbersF_s1 a b (fun a1 => some (vB a1, [])) (fun a0 a2 => lpN (sub (bodyOf Tryd.prog 36) [1, 1, 0, 1, 0, 0]) (qd19 fuel) 16 [0, 1, 4, 12, 13] fuel ⟨[(0, vL a), (1, vL b), (4, vB false), (12, vI a0), (13, vI a2)], [], 0, none⟩ (kont (qd19 fuel) (bodyOf Tryd.prog 36) [1, 1, 0, 1, 0] 16 (endK Tryd.prog 0 0 36))) := by kernel_rfl
noncomputable def refNumbersF {R : Type} (fuel : Nat) (a b : List Int) (r0 : Bool → Option R) : Option R :=
  (refNumbersF_s1 a b (fun a1 => r0 a1) (fun a0 a2 => (refNumbersF_l1 fuel a b ((refNumbersF_s3 (fun a3 => r0 a3))) ((refNumbersF_s4 (fun a4 => r0 a4))) fuel a0 a2)))
theorem refNumbersF_eq (fuel : Nat) (a b : List Int) : callN Tryd.prog mode14 T_PeelN fuel 36 [.li .i64 a, .li .i64 b] [] = refNumbersF fuel a b (fun z0 => some (.s (.bool z0), [])) := by
  unfold refNumbersF
  exact (refNumbersF_s1_eq fuel  a b).trans (congr (congr (Eq.refl (refNumbersF_s1 (R := Out) a b)) (rfl)) (funext fun a0 => funext fun a1 => (refNumbersF_l1_eq fuel a b (kont (qd19 fuel) (bodyOf Tryd.prog 36) [1, 1, 0, 1, 0] 16 (endK Tryd.prog 0 0 36)) fuel a0 a1).trans (congrFun (congrFun (congrFun (congr (congr (Eq.refl (refNumbersF_l1 (R := Out) fuel a b)) ((refNumbersF_s3_eq fuel  ))) ((refNumbersF_s4_eq fuel  ))) fuel) a0) a1)))
theorem refNumbers_loop {R : Type} (fuel : Nat) (a b : List Int) (hab : a.length = b.length) (hx : a.length ≤ 1000000) (k0 k1 : Option R) : ∀ (k j : Nat), j ≤ a.length → a.length < j + k → refNumbersF_l1 fuel a b k0 k1 k (a.length : Int) (j : Int) = if a.drop j = b.drop j then k1 else k0
  | 0, j, h1, h2 => by omega
  | k + 1, j, h1, h2 => by
    unfold refNumbersF_l1 refNumbersF_s2
    rw [br_if]
    by_cases hc : j < a.length
    · have hc2 : j < b.length := by omega
      rw [if_pos (by simpa using hc), bnd_of ((ix_nat a j).trans (List.getElem?_eq_getElem hc)), bnd_of ((ix_nat b j).trans (List.getElem?_eq_getElem hc2)), br_if, List.drop_eq_getElem_cons hc, List.drop_eq_getElem_cons hc2, wrap_i64 (by omega) (by omega), show (j : Int) + 1 = ((j + 1 : Nat) : Int) by omega]
      dsimp only
      rw [refNumbers_loop fuel a b hab hx k0 k1 k (j + 1) (by omega) (by omega)]
      generalize a[j] = x
      generalize b[j] = y
      generalize a.drop (j + 1) = t
      generalize b.drop (j + 1) = u
      by_cases he : x = y <;> simp [he]
    · rw [if_neg (by simpa using hc), List.drop_eq_nil_of_le (by omega), List.drop_eq_nil_of_le (by omega)]
      simp
theorem refNumbers_fact (a : List Int) (b : List Int) (hg : (decide (List.length (α := Int) a ≤ 1000000)) = true) : Fact Tryd.prog gTab 36 [.li .i64 a, .li .i64 b] [] (.s (.bool (eqS_li a b)), []) := by
  have hg := of_decide_eq_true hg
  refine callN_fact hN hM T_PeelN_ok (n := a.length + 1) (mode := mode14) ?_
  rw [refNumbersF_eq]
  unfold refNumbersF refNumbersF_s1
  rw [br_if]
  by_cases hab : a.length = b.length
  · rw [if_neg (by simp; omega)]
    dsimp only
    have := refNumbers_loop (R := Out) (a.length + 1) a b hab hg
    rw [show (0 : Int) = ((0 : Nat) : Int) from rfl, this _ _ _ _ (by omega) (by omega), List.drop_zero, List.drop_zero, eqS_li_eq]
    unfold eqI_li refNumbersF_s3 refNumbersF_s4
    by_cases h : a = b <;> simp [h]
  · rw [if_pos (by simp; omega), eqS_li_eq]
    unfold eqI_li
    have : a ≠ b := by rintro rfl; exact hab rfl
    simp [this]
noncomputable def refNumbers_ent : List V → List Blk → Option (Bool × Out)
  | [w0, w1], [] => (asSl (.int .i64) w0).bind fun a => (asSl (.int .i64) w1).bind fun b => some ((decide (List.length (α := Int) a ≤ 1000000)), (.s (.bool (eqS_li a b)), []))
  | _, _ => none
theorem refNumbers_ok : ∀ args bs out, refNumbers_ent args bs = some (true, out) → Fact Tryd.prog gTab 36 args bs out := by
  intro args bs out h
  unfold refNumbers_ent at h
  split at h
  · rename_i w0 w1
    obtain ⟨a, h_a, h⟩ := Option.bind_eq_some_iff.1 h
    obtain ⟨b, h_b, h⟩ := Option.bind_eq_some_iff.1 h
    simp only [Option.some.injEq, Prod.mk.injEq] at h
    obtain ⟨hg, rfl⟩ := h
    exact (refNumbers_fact a b hg).args (fun _ _ _ => fun _ h => RVs_two (fun _ h => RV_li h_a h) (fun _ h => RVs_two (fun _ h => RV_li h_b h) (fun _ h => h) h) h)
  · cases h
noncomputable def T_refNumbers : Tbl := Tbl.cons 36 refNumbers_ent T_PeelN
theorem T_refNumbers_ok : CallOk Tryd.prog gTab T_refNumbers := cons_ok T_PeelN_ok refNumbers_ok
def mode15 : FuncId → Nat := fun f => 0
/-! The law on peeling in any order: what it asks. -/
noncomputable def stpNI (z : Int) (r : List Eqn) : Int := if mayB z r = true then (if stepS r < 0 then 0 else stepS r) else 0
noncomputable def stpN : Int → List Eqn → Int := Classical.choose (⟨stpNI, rfl⟩ : ∃ f, f = stpNI)
theorem stpN_eq : stpN = stpNI := Classical.choose_spec (⟨stpNI, rfl⟩ : ∃ f, f = stpNI)
noncomputable def stpEI (z : Int) (r : List Eqn) : Int := if mayB z r = true then (if stepS r < 0 then 4 else 0) else 1
noncomputable def stpE : Int → List Eqn → Int := Classical.choose (⟨stpEI, rfl⟩ : ∃ f, f = stpEI)
theorem stpE_eq : stpE = stpEI := Classical.choose_spec (⟨stpEI, rfl⟩ : ∃ f, f = stpEI)
/-! downpour/peel.Step -/
noncomputable abbrev qd20 (r : List ((Int × List Int) × ByteArray)) : Nat × Option Blk := (2, some ⟨144, .agg [.lt (.pair (.pair (.int .i64) (.sl (.int .u64))) .str) r, vN, vN], true⟩)
noncomputable abbrev qd21 : List (Nat × V) := [(4, .ptr 0 1 0 0), (5, .ptr 1 1 0 0), (19, .fn (.func 97) [.ptr 2 3 0 0] [])]
noncomputable abbrev qd22 : Nat × Option Blk := (1, some ⟨29, .agg [vI 0], true⟩)
noncomputable abbrev qd23 (fuel : Nat) : Ctx Out := (fnX Tryd.prog mode15 T_refNumbers fuel 22 0)
noncomputable abbrev qd24 : Code := (bodyOf Tryd.prog 43)
noncomputable abbrev qd25 : Nat × Option Blk := (0, some ⟨3, .agg [vI 0], true⟩)
noncomputable abbrev qd26 : Code := (sub qd24 [1, 1, 1, 0, 1, 0, 0])
noncomputable abbrev qd27 : Code := (sub qd24 [1, 1, 1, 0, 1, 0, 1])
noncomputable def StepF_s2 {R : Type} (r : List ((Int × List Int) × ByteArray)) (c0 : Option R) (c1 : Int → Option R) : Option R :=
  grd (okE r && decide (List.length (α := Eqn) r ≤ 1000)) <|
  br (decide (((stepS r) : Int) < 0))
    (c0)
    (c1 (stepS r))
theorem StepF_s2_eq (fuel k : Nat) (K : Ex → St → Option Out) (r : List ((Int × List Int) × ByteArray)) : lpN (sub (bodyOf Tryd.prog 97) [0, 0]) (itX Tryd.prog mode15 T_refNumbers fuel 3 18 4 3 (roundK (evC qd26) (evC qd27) (qd23 fuel) #[20] 2097456 qd21)) 0 [0, 1] (k + 1) ⟨[(0, .ptr 2 3 0 0), (1, .yl 3)], [qd25, qd22, (qd20 r), (3, none)], 4, none⟩ K = StepF_s2 r (K .ret ⟨[], [qd25, qd22, (qd20 r), (3, none)], 4, none⟩) (fun a4 => K .ret ⟨[], [(0, some ⟨3, .agg [vI a4], true⟩), qd22, (qd20 r), (3, none)], 4, (some .ret)⟩) := by kernel_rfl
noncomputable def StepF_l1 {R : Type} (fuel : Nat) (r : List ((Int × List Int) × ByteArray)) (k0 : Option R) (k1 : Int → Option R) : Nat → Option R
  | 0 => none
  | k + 1 =>
    (StepF_s2 r (k0) (fun a4 => k1 a4))
theorem StepF_l1_eq (fuel : Nat) (r : List ((Int × List Int) × ByteArray)) (K : Ex → St → Option Out) : ∀ (k : Nat) , lpN (sub (bodyOf Tryd.prog 97) [0, 0]) (itX Tryd.prog mode15 T_refNumbers fuel 3 18 4 3 (roundK (evC qd26) (evC qd27) (qd23 fuel) #[20] 2097456 qd21)) 0 [0, 1] k ⟨[(0, .ptr 2 3 0 0), (1, .yl 3)], [qd25, qd22, (qd20 r), (3, none)], 4, none⟩ K = StepF_l1 fuel r (K .ret ⟨[], [qd25, qd22, (qd20 r), (3, none)], 4, none⟩) (fun y3 => K .ret ⟨[], [(0, some ⟨3, .agg [vI y3], true⟩), qd22, (qd20 r), (3, none)], 4, (some .ret)⟩) k 
  | 0 => rfl
  | k + 1 => by
    unfold StepF_l1
    exact (StepF_s2_eq fuel k K r)
noncomputable def StepF_s3 {R : Type} (r : List ((Int × List Int) × ByteArray)) (c0 : Int → Int → Option R) : Option R :=
  c0 0 4
theorem StepF_s3_eq (fuel : Nat)  (r : List ((Int × List Int) × ByteArray)) : (kont (itX Tryd.prog mode15 T_refNumbers fuel 3 18 4 3 (roundK (evC qd26) (evC qd27) (qd23 fuel) #[20] 2097456 qd21)) (bodyOf Tryd.prog 97) [0] 0 (itE (behind ⟨qd21, [qd25, qd22, (qd20 r)], 3, none⟩ (kont (qd23 fuel) qd24 [1, 1, 1, 0, 1, 0] 48 (endK Tryd.prog 0 0 43))))) .ret ⟨[], [qd25, qd22, (qd20 r), (3, none)], 4, none⟩ = StepF_s3 r (fun a5 a6 => some (.tup [vI a5, vI a6], [])) := by kernel_rfl
noncomputable def StepF_s4 {R : Type} (x7 : Int) (r : List ((Int × List Int) × ByteArray)) (c0 : Int → Int → Option R) : Option R :=
  c0 x7 0
theorem StepF_s4_eq (fuel : Nat)  (x7 : Int) (r : List ((Int × List Int) × ByteArray)) : (kont (itX Tryd.prog mode15 T_refNumbers fuel 3 18 4 3 (roundK (evC qd26) (evC qd27) (qd23 fuel) #[20] 2097456 qd21)) (bodyOf Tryd.prog 97) [0] 0 (itE (behind ⟨qd21, [qd25, qd22, (qd20 r)], 3, none⟩ (kont (qd23 fuel) qd24 [1, 1, 1, 0, 1, 0] 48 (endK Tryd.prog 0 0 43))))) .ret ⟨[], [(0, some ⟨3, .agg [vI x7], true⟩), qd22, (qd20 r), (3, none)], 4, (some .ret)⟩ = StepF_s4 x7 r (fun a8 a9 => some (.tup [vI a8, vI a9], [])) := by kernel_rfl
noncomputable def StepF_s1 {R : Type} (r : List ((Int × List Int) × ByteArray)) (z : Int) (c0 : Int → Int → Option R) (c1 : Option R) : Option R :=
  grd (okE r) <|
  br (((if mayB z r = true then 0 else 1) : Int) != 0)
    (c0 0 (if mayB z r = true then 0 else 1))
    (c1)
theorem StepF_s1_eq (fuel : Nat)  (r : List ((Int × List Int) × ByteArray)) (z : Int) : callN Tryd.prog mode15 T_refNumbers fuel 43 [vI z, .lt (.pair (.pair (.int .i64) (.sl (.int .u64))) .str) r] [] = StepF_s1 r z (fun a1 a2 => some (.tup [vI a1, vI a2], [])) (lpN (sub (bodyOf Tryd.prog 97) [0, 0]) (itX Tryd.prog mode15 T_refNumbers fuel 3 18 4 3 (roundK (evC qd26) (evC qd27) (qd23 fuel) #[20] 2097456 qd21)) 0 [0, 1] fuel ⟨[(0, .ptr 2 3 0 0), (1, .yl 3)], [qd25, qd22, (qd20 r), (3, none)], 4, none⟩ (kont (itX Tryd.prog mode15 T_refNumbers fuel 3 18 4 3 (roundK (evC qd26) (evC qd27) (qd23 fuel) #[20] 2097456 qd21)) (bodyOf Tryd.prog 97) [0] 0 (itE (behind ⟨qd21, [qd25, qd22, (qd20 r)], 3, none⟩ (kont (qd23 fuel) qd24 [1, 1, 1, 0, 1, 0] 48 (endK Tryd.prog 0 0 43)))))) := by kernel_rfl
noncomputable def StepF {R : Type} (fuel : Nat) (z : Int) (r : List ((Int × List Int) × ByteArray)) (r0 : Int → Int → Option R) : Option R :=
  (StepF_s1 r z (fun a1 a2 => r0 a1 a2) ((StepF_l1 fuel r ((StepF_s3 r (fun a5 a6 => r0 a5 a6))) (fun x7 => (StepF_s4 x7 r (fun a8 a9 => r0 a8 a9))) fuel)))
theorem StepF_eq (fuel : Nat) (z : Int) (r : List ((Int × List Int) × ByteArray)) : callN Tryd.prog mode15 T_refNumbers fuel 43 [.s (.int .i64 z), .lt (.pair (.pair (.int .i64) (.sl (.int .u64))) .str) r] [] = StepF fuel z r (fun z0 z1 => some (.tup [.s (.int .i64 z0), .s (.int .i64 z1)], [])) := by
  unfold StepF
  exact (StepF_s1_eq fuel  r z).trans (congr (congr (Eq.refl (StepF_s1 (R := Out) r z)) (rfl)) ((StepF_l1_eq fuel r (kont (itX Tryd.prog mode15 T_refNumbers fuel 3 18 4 3 (roundK (evC qd26) (evC qd27) (qd23 fuel) #[20] 2097456 qd21)) (bodyOf Tryd.prog 97) [0] 0 (itE (behind ⟨qd21, [qd25, qd22, (qd20 r)], 3, none⟩ (kont (qd23 fuel) qd24 [1, 1, 1, 0, 1, 0] 48 (endK Tryd.prog 0 0 43))))) fuel ).trans (congrFun (congr (congr (Eq.refl (StepF_l1 (R := Out) fuel r)) ((StepF_s3_eq fuel  r))) (funext fun x7 => (StepF_s4_eq fuel  x7 r))) fuel)))
theorem Step_fact (z : Int) (r : List ((Int × List Int) × ByteArray)) (hg : (okE r && decide (List.length (α := Eqn) r ≤ 1000)) = true) : Fact Tryd.prog gTab 43 [.s (.int .i64 z), .lt (.pair (.pair (.int .i64) (.sl (.int .u64))) .str) r] [] (.tup [.s (.int .i64 (stpN z r)), .s (.int .i64 (stpE z r))], []) := by
  simp only [Bool.and_eq_true, decide_eq_true_eq] at hg
  obtain ⟨hok, hl⟩ := hg
  refine callN_fact hN hM T_refNumbers_ok (n := 0 + 1) (mode := mode15) ?_
  rw [StepF_eq]
  unfold StepF StepF_s1
  rw [grd_of hok, br_if, stpN_eq, stpE_eq]
  unfold stpNI stpEI
  by_cases hm : mayB z r = true
  · rw [if_pos hm, if_pos hm, if_pos hm, if_neg (by decide)]
    unfold StepF_l1 StepF_s2
    rw [grd_of (by rw [hok]; simp; omega), br_if]
    by_cases h : stepS r < 0
    · rw [if_pos (by simpa using h), if_pos h, if_pos h]; rfl
    · rw [if_neg (by simpa using h), if_neg h, if_neg h]; rfl
  · rw [if_neg hm, if_neg hm, if_neg hm, if_pos (by decide)]
noncomputable def Step_ent : List V → List Blk → Option (Bool × Out)
  | [.s (.int .i64 z), w0], [] => (asSl (.pair (.pair (.int .i64) (.sl (.int .u64))) .str) w0).bind fun r => some ((okE r && decide (List.length (α := Eqn) r ≤ 1000)), (.tup [.s (.int .i64 (stpN z r)), .s (.int .i64 (stpE z r))], []))
  | _, _ => none
theorem Step_ok : ∀ args bs out, Step_ent args bs = some (true, out) → Fact Tryd.prog gTab 43 args bs out := by
  intro args bs out h
  unfold Step_ent at h
  split at h
  · rename_i z w0
    obtain ⟨r, h_r, h⟩ := Option.bind_eq_some_iff.1 h
    simp only [Option.some.injEq, Prod.mk.injEq] at h
    obtain ⟨hg, rfl⟩ := h
    exact (Step_fact z r hg).args (fun _ _ _ => fun _ h => RVs_two (fun _ h => h) (fun _ h => RVs_two (fun _ h => RV_sl (s := (.pair (.pair (.int .i64) (.sl (.int .u64))) .str)) h_r h) (fun _ h => h) h) h)
  · cases h
noncomputable def T_Step : Tbl := Tbl.cons 43 Step_ent T_refNumbers
theorem T_Step_ok : CallOk Tryd.prog gTab T_Step := cons_ok T_refNumbers_ok Step_ok
def mode16 : FuncId → Nat := fun f => 0
/-! Sums of blocks by rows: the sum by two rows' xor is both sums' xor. -/
theorem xb_nat {a b : List Int} (ha : ByteOk a) (hb : ByteOk b) (hl : a.length = b.length) (i : Nat) : ((xb a b).getD i 0).toNat = (a.getD i 0).toNat ^^^ (b.getD i 0).toNat := by
  have h1 := getD_ok ha i
  have h2 := getD_ok hb i
  by_cases h : i < a.length
  · rw [xb_getD h (by omega), x8_nat h1.1 h1.2 h2.1 h2.2, Int.toNat_natCast]
  · have e : ∀ l : List Int, l.length ≤ i → l.getD i 0 = 0 := fun l hl => by rw [List.getD_eq_getElem?_getD, List.getElem?_eq_none hl]; rfl
    rw [e _ (by rw [xb_len]; omega), e _ (by omega), e _ (by omega)]; rfl
theorem xb_leneq {a b : List Int} (hl : a.length = b.length) : (xb a b).length = a.length := by rw [xb_len]; omega
theorem bytes_ext {a b : List Int} (ha : ByteOk a) (hb : ByteOk b) (hl : a.length = b.length) (h : ∀ i, (a.getD i 0).toNat = (b.getD i 0).toNat) : a = b := by
  refine ext_getD hl fun i _ => ?_
  have h1 := getD_ok ha i
  have h2 := getD_ok hb i
  have := h i
  omega
theorem xb_four {a b c d : List Int} (ha : ByteOk a) (hb : ByteOk b) (hc : ByteOk c) (hd : ByteOk d) (h1 : a.length = b.length) (h2 : a.length = c.length) (h3 : a.length = d.length) : xb (xb a b) (xb c d) = xb (xb a c) (xb b d) := by
  have e1 := xb_leneq h1
  have e2 := xb_leneq (a := c) (b := d) (by omega)
  have e3 := xb_leneq h2
  have e4 := xb_leneq (a := b) (b := d) (by omega)
  refine bytes_ext (xb_ok (xb_ok ha hb) (xb_ok hc hd)) (xb_ok (xb_ok ha hc) (xb_ok hb hd)) (by have e5 := xb_leneq (a := xb a b) (b := xb c d) (by omega); have e6 := xb_leneq (a := xb a c) (b := xb b d) (by omega); omega) fun i => ?_
  rw [xb_nat (xb_ok ha hb) (xb_ok hc hd) (by omega), xb_nat ha hb h1, xb_nat hc hd (by omega), xb_nat (xb_ok ha hc) (xb_ok hb hd) (by omega), xb_nat ha hc h2, xb_nat hb hd (by omega)]
  rw [Nat.xor_assoc, Nat.xor_assoc, ← Nat.xor_assoc (b.getD i 0).toNat, Nat.xor_comm (b.getD i 0).toNat, Nat.xor_assoc (c.getD i 0).toNat]
/-- The sum of those of some blocks whose bits are 1 in a number. -/
noncomputable def selI (n : Nat) (x : List ByteArray) (v : Nat) : Nat → List Int
  | 0 => zb n
  | k + 1 => xb (selI n x v k) (if v.testBit k = true then bytesL (x.getD k ByteArray.empty) else zb n)
theorem zb_len (n : Nat) : (zb n).length = n := by unfold zb; simp
theorem sel_ok (n : Nat) (x : List ByteArray) (v : Nat) : ∀ k, ByteOk (selI n x v k)
  | 0 => zb_ok n
  | k + 1 => by
    rw [selI]
    refine xb_ok (sel_ok n x v k) ?_
    split
    · exact bytes_ok _
    · exact zb_ok n
theorem sel_part {n : Nat} {x : List ByteArray} (hs : ∀ s, s ∈ x → s.size = n) (v : Nat) {k : Nat} (hk : k < x.length) : (if v.testBit k = true then bytesL (x.getD k ByteArray.empty) else zb n).length = n := by
  split
  · rw [bytes_len, List.getD_eq_getElem?_getD, List.getElem?_eq_getElem hk]; exact hs _ (List.getElem_mem hk)
  · exact zb_len n
theorem sel_len {n : Nat} {x : List ByteArray} (hs : ∀ s, s ∈ x → s.size = n) (v : Nat) : ∀ k, k ≤ x.length → (selI n x v k).length = n
  | 0, _ => zb_len n
  | k + 1, h => by
    have := sel_len hs v k (by omega)
    rw [selI, xb_leneq (by rw [this, sel_part hs v (by omega)])]; exact this
theorem sel_xor {n : Nat} {x : List ByteArray} (hs : ∀ s, s ∈ x → s.size = n) (v w : Nat) : ∀ k, k ≤ x.length → selI n x (v ^^^ w) k = xb (selI n x v k) (selI n x w k)
  | 0, _ => by
    have := xb_self (zb_ok n)
    rw [zb_len] at this
    exact this.symm
  | k + 1, h => by
    have l1 := sel_len hs v k (by omega)
    have l2 := sel_len hs w k (by omega)
    have l3 := sel_part hs v (k := k) (by omega)
    have l4 := sel_part hs w (k := k) (by omega)
    have o : ∀ v : Nat, ByteOk (if v.testBit k = true then bytesL (x.getD k ByteArray.empty) else zb n) := fun v => by
      split
      · exact bytes_ok _
      · exact zb_ok n
    rw [selI, selI, selI, sel_xor hs v w k (by omega), xb_four (sel_ok n x v k) (o v) (sel_ok n x w k) (o w) (by omega) (by omega) (by omega)]
    congr 1
    rw [Nat.testBit_xor]
    have lx : (bytesL (x.getD k ByteArray.empty)).length = n := by
      rw [bytes_len, List.getD_eq_getElem?_getD, List.getElem?_eq_getElem (by omega)]; exact hs _ (List.getElem_mem _)
    have hx := bytes_ok (x.getD k ByteArray.empty)
    generalize bytesL (x.getD k ByteArray.empty) = q at lx hx
    have a1 := xb_self hx
    have a2 := xb_zero hx
    have a3 := zero_xb hx
    have a4 := xb_self (zb_ok n)
    rw [lx] at a1 a2 a3
    rw [zb_len] at a4
    cases hv : v.testBit k <;> cases hw : w.testBit k <;> simp [a1, a2, a3, a4]
theorem sel_plc {n : Nat} {x : List ByteArray} (hs : ∀ s, s ∈ x → s.size = n) (v : Nat) : ∀ k, k ≤ x.length → sumL (zb n) ((plc v k).map fun i => x.getD i.toNat ByteArray.empty) = selI n x v k
  | 0, _ => by simp [plc, selI, sumL]
  | k + 1, h => by
    have ih := sel_plc hs v k (by omega)
    rw [plc_succ, List.map_append, selI, ← ih]
    unfold sumL
    rw [List.foldl_append]
    by_cases hb : v.testBit k = true
    · rw [if_pos hb, if_pos hb]
      rfl
    · rw [if_neg hb, if_neg hb]
      have := xb_zero (sel_ok n x v k)
      rw [sel_len hs v k (by omega), ← ih] at this
      exact this.symm
/-- What a row picks of blocks of n bytes. -/
theorem pick_sel {n m : Int} {x : List ByteArray} {ws : List Int} (hok : okW ws = true) (h : rtS m ws = true) (hm : m = (x.length : Int)) (hs : ∀ s, s ∈ x → s.size = n.toNat) : sumS n (pickL x ws) = selI n.toNat x (val ws) x.length := by
  rw [sumS_eq, pickL_eq]
  unfold sumI pickLI
  rw [pl_plc hok h, hm, Int.toNat_natCast]
  exact sel_plc hs (val ws) x.length (Nat.le_refl _)
theorem sel_zero {n : Nat} {x : List ByteArray} (v : Nat) : ∀ k, (∀ b, b < k → v.testBit b = false) → selI n x v k = zb n
  | 0, _ => rfl
  | k + 1, h => by
    rw [selI, sel_zero v k (fun b hb => h b (by omega)), h k (by omega), if_neg (by decide)]
    have := xb_self (zb_ok n)
    rwa [zb_len] at this
theorem sel_one {n : Nat} {x : List ByteArray} (hs : ∀ s, s ∈ x → s.size = n) (i : Nat) : ∀ k, k ≤ x.length → selI n x (2 ^ i) k = if i < k then bytesL (x.getD i ByteArray.empty) else zb n
  | 0, _ => rfl
  | k + 1, h => by
    rw [selI, sel_one hs i k (by omega), Nat.testBit_two_pow]
    have z := xb_self (zb_ok n)
    rw [zb_len] at z
    have hl : ∀ j, j < x.length → (bytesL (x.getD j ByteArray.empty)).length = n := fun j hj => by
      rw [bytes_len, List.getD_eq_getElem?_getD, List.getElem?_eq_getElem hj]; exact hs _ (List.getElem_mem _)
    by_cases h1 : i = k
    · subst h1
      rw [if_neg (Nat.lt_irrefl i), if_pos (decide_eq_true rfl), if_pos (by omega)]
      have := zero_xb (bytes_ok (x.getD i ByteArray.empty))
      rwa [hl i (by omega)] at this
    · rw [if_neg (c := decide (i = k) = true) (by simp [h1])]
      by_cases h2 : i < k
      · rw [if_pos h2, if_pos (by omega)]
        have := xb_zero (bytes_ok (x.getD i ByteArray.empty))
        rwa [hl i (by omega)] at this
      · rw [if_neg h2, if_neg (by omega)]; exact z
/-! Peeling equations that blocks make, in any order. -/
def Rel (e0 e : Eqn) (l : List Int) : Prop := ∀ b, (val e.1.2).testBit b = ((val e0.1.2).testBit b && decide (l.getD b 0 ≠ 1))
def Made (n : Nat) (x : List ByteArray) (e : Eqn) : Prop := e.2 = txt (selI n x (val e.1.2) x.length)
structure PO (n : Nat) (x : List ByteArray) (r0 r : List Eqn) (t : List ByteArray) (l : List Int) : Prop where
  inv : PInv (x.length : Int) r l
  made : ∀ e, e ∈ r → Made n x e
  told : ∀ j, l.getD j 0 = 1 → t.getD j ByteArray.empty = x.getD j ByteArray.empty
  rel : ∃ g : Eqn → Eqn, r = r0.map g ∧ ∀ e, e ∈ r0 → Rel e (g e) l
  ht : t.length = x.length
theorem one_list {n : Int} {ws : List Int} (h : 0 ≤ oneS n ws) : plS ws = [oneS n ws] := by
  rw [oneS_eq] at h ⊢
  unfold oneI at h ⊢
  split at h
  · rename_i hc
    rw [if_pos hc]
    obtain ⟨x, hx⟩ := List.length_eq_one_iff.1 hc.2
    rw [hx]; rfl
  · omega
theorem one_bits {n : Int} {ws : List Int} (hok : okW ws = true) (h : 0 ≤ oneS n ws) (b : Nat) : (val ws).testBit b = decide (b = (oneS n ws).toNat) := by
  obtain ⟨hr, h1, h2⟩ := one_spec hok h
  by_cases hb : b = (oneS n ws).toNat
  · subst hb; rw [h2]; simp
  · rw [decide_eq_false hb]
    cases hc : (val ws).testBit b with
    | false => rfl
    | true =>
      have hlt : b < n.toNat := by
        apply Nat.lt_of_not_le
        intro hle
        have := Nat.testBit_lt_two_pow (Nat.lt_of_lt_of_le (rt_lt hr) (Nat.pow_le_pow_right (by omega) hle))
        rw [this] at hc; cases hc
      have hm := (nat_mem_plc (val ws) n.toNat b).2 ⟨hlt, hc⟩
      rw [← pl_plc hok hr, one_list h, List.mem_singleton] at hm
      omega
theorem one_val {n : Int} {ws : List Int} (hok : okW ws = true) (h : 0 ≤ oneS n ws) : val ws = 2 ^ (oneS n ws).toNat := by
  refine Nat.eq_of_testBit_eq fun b => ?_
  rw [one_bits hok h, Nat.testBit_two_pow]
  by_cases hb : b = (oneS n ws).toNat
  · subst hb; simp
  · rw [decide_eq_false hb, decide_eq_false (Ne.symm hb)]
theorem set_getDB (t : List ByteArray) (i j : Nat) (s : ByteArray) (hi : i < t.length) : (t.set i s).getD j ByteArray.empty = if i = j then s else t.getD j ByteArray.empty := by
  rw [List.getD_eq_getElem?_getD, List.getElem?_set, List.getD_eq_getElem?_getD]
  by_cases h : i = j
  · subst h; rw [if_pos rfl, if_pos rfl, if_pos hi]; rfl
  · rw [if_neg h, if_neg h]
theorem made_size {n : Nat} {x : List ByteArray} (hs : ∀ s, s ∈ x → s.size = n) {e : Eqn} (h : Made n x e) : e.2.size = n := by
  rw [h, txt_size, sel_len hs _ _ (Nat.le_refl _)]
theorem PO.step {n : Nat} {x : List ByteArray} (hs : ∀ s, s ∈ x → s.size = n) (hn : n ≤ 64) {r0 r : List Eqn} {t : List ByteArray} {l : List Int} (h : PO n x r0 r t l) {j : Nat} (hj : j < r.length) (h0 : 0 ≤ oneS (r[j]).1.1 (r[j]).1.2) :
    (r[j]).2 = x.getD (oneS (r[j]).1.1 (r[j]).1.2).toNat ByteArray.empty ∧ PO n x r0 (r.map fun e => outE e (oneS (r[j]).1.1 (r[j]).1.2) (r[j]).2) (t.set (oneS (r[j]).1.1 (r[j]).1.2).toNat (r[j]).2) (l.set (oneS (r[j]).1.1 (r[j]).1.2).toNat 1) := by
  have hm := List.getElem_mem hj
  obtain ⟨a1, a2, a3⟩ := h.inv.flag hj h0
  obtain ⟨hz, hl, hr, hb⟩ := h.inv
  have hlx : l.length = x.length := by rw [hl, Int.toNat_natCast]
  have hv := one_val (hr _ hm).2.1 h0
  have hq : (r[j]).2 = x.getD (oneS (r[j]).1.1 (r[j]).1.2).toNat ByteArray.empty := by
    rw [h.made _ hm, hv, sel_one hs _ _ (Nat.le_refl _), if_pos (by omega), txt_bytes]
  have hqs : (r[j]).2.size = n := made_size hs (h.made _ hm)
  generalize hi : oneS (r[j]).1.1 (r[j]).1.2 = i at *
  generalize (r[j]).2 = s at *
  refine ⟨hq, ?_⟩
  refine ⟨PInv.step ⟨hz, hl, hr, hb⟩ s h0 a1, fun e he => ?_, fun k hk => ?_, ?_, by rw [List.length_set]; exact h.ht⟩
  · obtain ⟨e0, he0, rfl⟩ := List.mem_map.1 he
    obtain ⟨g1, g2, g3⟩ := hr e0 he0
    have hmd := h.made e0 he0
    have hsz := made_size hs hmd
    obtain ⟨⟨m, ws⟩, u⟩ := e0
    have g1 : m = (x.length : Int) := g1
    subst g1
    have hsz : u.size = n := hsz
    have hmd : u = txt (selI n x (val ws) x.length) := hmd
    obtain ⟨_, _, _, o4, o5⟩ := out_spec (t := u) (s := s) g2 g3 h0 a1
    show (outE _ i s).2 = txt (selI n x (val (outE _ i s).1.2) x.length)
    rw [o5]
    by_cases hbit : (val ws).testBit i.toNat = true
    · have ev : val (outE (((x.length : Int), ws), u) i s).1.2 = val ws ^^^ 2 ^ i.toNat := Nat.eq_of_testBit_eq fun b => by
        rw [o4, Nat.testBit_xor, Nat.testBit_two_pow]
        by_cases hbi : i.toNat = b
        · subst hbi; simp [hbit]
        · simp [hbi, Ne.symm hbi]
      rw [if_pos hbit, ev, sel_xor hs _ _ _ (Nat.le_refl _), sel_one hs _ _ (Nat.le_refl _), if_pos (by omega), ← hq, xorT_eq]
      unfold xorTI
      rw [if_pos (bok_iff.2 ⟨⟨by omega, by omega⟩, by simp, fun w hw => by
        simp only [List.mem_cons, List.not_mem_nil, or_false] at hw
        rcases hw with rfl | rfl <;> omega⟩)]
      congr 2
      rw [hmd, bytes_txt (sel_ok _ _ _ _)]
    · rw [if_neg hbit]
      have ev : val (outE (((x.length : Int), ws), u) i s).1.2 = val ws := Nat.eq_of_testBit_eq fun b => by
        rw [o4]
        by_cases hbi : b = i.toNat
        · subst hbi; simp [hbit]
        · simp [hbi]
      rw [ev]; exact hmd
  · rw [set_getDB _ _ _ _ (by rw [h.ht]; omega)]
    rw [set_getD1 _ _ _ (by omega)] at hk
    by_cases hik : i.toNat = k
    · subst hik; rw [if_pos rfl]; exact hq
    · rw [if_neg hik]; rw [if_neg hik] at hk; exact h.told k hk
  · obtain ⟨g, rfl, hg⟩ := h.rel
    refine ⟨fun e => outE (g e) i s, by rw [List.map_map]; rfl, fun e he b => ?_⟩
    have he0 : g e ∈ r0.map g := List.mem_map.2 ⟨e, he, rfl⟩
    obtain ⟨g1, g2, g3⟩ := hr _ he0
    have hgb := hg e he b
    show (val (outE (g e) i s).1.2).testBit b = _
    generalize g e = e1 at g1 g2 g3 hgb ⊢
    obtain ⟨⟨m, ws⟩, u⟩ := e1
    have g1 : m = (x.length : Int) := g1
    subst g1
    obtain ⟨_, _, _, o4, _⟩ := out_spec (t := u) (s := s) g2 g3 h0 a1
    have hgb : (val ws).testBit b = _ := hgb
    refine (o4 b).trans ?_
    show ((val ws).testBit b && _) = _
    rw [hgb, set_getD1 _ _ _ (by omega)]
    by_cases hib : i.toNat = b
    · subst hib; simp
    · rw [if_neg hib, decide_eq_true (Ne.symm hib), Bool.and_true]
theorem PO.all {n : Nat} {x : List ByteArray} (hs : ∀ s, s ∈ x → s.size = n) (hn : n ≤ 64) {r0 : List Eqn} : ∀ {f : Nat} {r : List Eqn} {t : List ByteArray} {l : List Int}, PO n x r0 r t l → PO n x r0 (peelN f r t l).1 (peelN f r t l).2.1 (peelN f r t l).2.2
  | 0, r, t, l, h => h
  | f + 1, r, t, l, h => by
    rcases step_cases r with hs0 | ⟨j, hj, hs0, h0⟩
    · rw [peel_stop (by rw [hs0]; decide)]; exact h
    · rw [peelN, if_neg (by rw [hs0]; simp), hs0, Int.toNat_natCast, getD_eqn hj]
      exact PO.all hs hn (f := f) (h.step hs hn hj h0).2
theorem peel_closed {z : Int} : ∀ {f : Nat} {r : List Eqn} {t : List ByteArray} {l : List Int}, PInv z r l → zeros l ≤ f → stepS (peelN f r t l).1 < 0
  | 0, r, t, l, h, hz => by
    rcases step_cases r with hs | ⟨j, hj, hs, h0⟩
    · rw [peel_stop (by rw [hs]; decide)]
      show stepS r < 0
      rw [hs]; decide
    · obtain ⟨a1, a2, a3⟩ := h.flag hj h0
      have := zeros_set l _ a2 a3
      omega
  | f + 1, r, t, l, h, hz => by
    rcases step_cases r with hs | ⟨j, hj, hs, h0⟩
    · rw [peel_stop (by rw [hs]; decide)]
      show stepS r < 0
      rw [hs]; decide
    · obtain ⟨a1, a2, a3⟩ := h.flag hj h0
      have := zeros_set l _ a2 a3
      rw [peelN, if_neg (by rw [hs]; simp), hs, Int.toNat_natCast, getD_eqn hj]
      exact peel_closed (f := f) (h.step (r[j]).2 h0 a1) (by omega)
theorem stepFrom_neg : ∀ (t : List Eqn) (j : Int), 0 ≤ j → stepFrom t j < 0 → ∀ e, e ∈ t → oneS e.1.1 e.1.2 < 0
  | [], j, _, _, e, he => by simp at he
  | a :: t, j, hj, h, e, he => by
    rw [stepFrom] at h
    by_cases h0 : 0 ≤ oneS a.1.1 a.1.2
    · rw [if_pos h0] at h; omega
    · rw [if_neg h0] at h
      rcases List.mem_cons.1 he with rfl | he
      · omega
      · exact stepFrom_neg t (j + 1) (by omega) h e he
theorem step_neg {r : List Eqn} (h : stepS r < 0) : ∀ e, e ∈ r → oneS e.1.1 e.1.2 < 0 := by
  rw [stepS_eq] at h
  exact stepFrom_neg r 0 (by omega) h
theorem step_none {r : List Eqn} (h : ∀ e, e ∈ r → oneS e.1.1 e.1.2 < 0) : stepS r = -1 := by
  rcases step_cases r with hs | ⟨j, hj, _, h0⟩
  · exact hs
  · have := h _ (List.getElem_mem hj); omega
/-- No equation has just one place that is not told. -/
def Cl (r0 : List Eqn) (F : Nat → Prop) : Prop := ∀ e, e ∈ r0 → ∀ i, (val e.1.2).testBit i = true → ¬ F i → ¬ ∀ b, (val e.1.2).testBit b = true → ¬ F b → b = i
theorem one_of_bits {n : Int} {ws : List Int} {i : Nat} (hok : okW ws = true) (hr : rtS n ws = true) (h : ∀ b, (val ws).testBit b = decide (b = i)) : 0 ≤ oneS n ws := by
  have hb : (val ws).testBit i = true := by rw [h]; simp
  have hi : i < n.toNat := by
    apply Nat.lt_of_not_le
    intro hle
    have := Nat.testBit_lt_two_pow (Nat.lt_of_lt_of_le (rt_lt hr) (Nat.pow_le_pow_right (by omega) hle))
    rw [this] at hb; cases hb
  have hv : val ws = 2 ^ i := Nat.eq_of_testBit_eq fun b => by
    rw [h, Nat.testBit_two_pow]
    by_cases hbi : b = i
    · subst hbi; simp
    · rw [decide_eq_false hbi, decide_eq_false (Ne.symm hbi)]
  have hl : (plS ws).length = 1 := by
    rw [pl_plc hok hr, hv]
    have : ∀ k, (plc (2 ^ i) k).length = if i < k then 1 else 0 := fun k => by
      induction k with
      | zero => rfl
      | succ k ih =>
        rw [plc_succ, List.length_append, ih, Nat.testBit_two_pow]
        by_cases h1 : i = k
        · subst h1; simp
        · by_cases h2 : i < k
          · rw [if_pos h2, if_neg (by simp [h1]), if_pos (by omega)]; rfl
          · rw [if_neg h2, if_neg (by simp [h1]), if_neg (by omega)]; rfl
    rw [this, if_pos hi]
  have hm : (plS ws).headD 0 ∈ plS ws := by
    cases hp : plS ws with
    | nil => rw [hp] at hl; simp at hl
    | cons x t => exact List.mem_cons_self
  rw [oneS_eq]; unfold oneI
  rw [if_pos ⟨hr, hl⟩]
  rw [pl_plc hok hr] at hm ⊢
  obtain ⟨k, _, _, h3⟩ := (mem_plc _ _ _).1 hm
  omega
theorem PO.closed {n : Nat} {x : List ByteArray} {r0 r : List Eqn} {t : List ByteArray} {l : List Int} (h : PO n x r0 r t l) (hs : stepS r < 0) : Cl r0 fun b => l.getD b 0 = 1 := by
  intro e he i hi hF hall
  obtain ⟨g, rfl, hg⟩ := h.rel
  have hm : g e ∈ r0.map g := List.mem_map.2 ⟨e, he, rfl⟩
  obtain ⟨_, g2, g3⟩ := h.inv.2.2.1 _ hm
  have := step_neg hs _ hm
  have h0 := one_of_bits (i := i) g2 g3 fun b => by
    rw [hg e he b]
    by_cases hb : b = i
    · subst hb; rw [hi, decide_eq_true hF]; simp
    · rw [decide_eq_false hb]
      cases hc : (val e.1.2).testBit b with
      | false => rfl
      | true =>
        by_cases hF2 : l.getD b 0 = 1
        · rw [decide_eq_false (fun h => h hF2)]; rfl
        · exact absurd (hall b hc hF2) hb
  omega
theorem PO.least {n : Nat} {x : List ByteArray} (hs : ∀ s, s ∈ x → s.size = n) (hn : n ≤ 64) {r0 r1 : List Eqn} (hsub : ∀ e, e ∈ r0 → e ∈ r1) {F : Nat → Prop} (hF : Cl r1 F) : ∀ {f : Nat} {r : List Eqn} {t : List ByteArray} {l : List Int}, PO n x r0 r t l → (∀ b, l.getD b 0 = 1 → F b) → ∀ b, (peelN f r t l).2.2.getD b 0 = 1 → F b
  | 0, r, t, l, h, hl, b, hb => hl b hb
  | f + 1, r, t, l, h, hl, b, hb => by
    rcases step_cases r with hs0 | ⟨j, hj, hs0, h0⟩
    · rw [peel_stop (by rw [hs0]; decide)] at hb; exact hl b hb
    · rw [peelN, if_neg (by rw [hs0]; simp), hs0, Int.toNat_natCast, getD_eqn hj] at hb
      refine PO.least hs hn hsub hF (f := f) (h.step hs hn hj h0).2 (fun k hk => ?_) b hb
      obtain ⟨a1, a2, a3⟩ := h.inv.flag hj h0
      rw [set_getD1 _ _ _ a2] at hk
      by_cases hik : (oneS (r[j]).1.1 (r[j]).1.2).toNat = k
      · subst hik
        apply Classical.byContradiction
        intro hno
        have hok := (h.inv.2.2.1 _ (List.getElem_mem hj)).2.1
        have hbits := one_bits hok h0
        obtain ⟨g, hg1, hg⟩ := h.rel
        have hjl : j < r0.length := by have := congrArg List.length hg1; rw [List.length_map] at this; omega
        have e1 : r[j] = g r0[j] := by simp [hg1]
        have hgj := hg _ (List.getElem_mem hjl)
        rw [← e1] at hgj
        refine hF _ (hsub _ (List.getElem_mem hjl)) (oneS (r[j]).1.1 (r[j]).1.2).toNat ?_ hno fun c hc hFc => ?_
        · have := hgj (oneS (r[j]).1.1 (r[j]).1.2).toNat
          rw [hbits] at this
          simp only [decide_true] at this
          cases hx : (val (r0[j]).1.2).testBit (oneS (r[j]).1.1 (r[j]).1.2).toNat with
          | true => rfl
          | false => rw [hx] at this; simp at this
        · have := hgj c
          have hlc : l.getD c 0 ≠ 1 := fun h => hFc (hl c h)
          rw [hbits, hc, decide_eq_true hlc] at this
          simpa using this
      · rw [if_neg hik] at hk; exact hl k hk
theorem told_map (x : List ByteArray) : ∀ (l : List Int) (t : List ByteArray) (j : Nat), t.length = l.length → (∀ k, l.getD k 0 = 1 → t.getD k ByteArray.empty = x.getD (j + k) ByteArray.empty) → toldFrom l t = (placesFrom l (j : Int)).map fun i => x.getD i.toNat ByteArray.empty
  | [], t, j, _, _ => by cases t <;> rfl
  | y :: l, [], j, h, _ => by simp at h
  | y :: l, u :: t, j, h, hx => by
    have ih := told_map x l t (j + 1) (by simpa using h) fun k hk => by
      have := hx (k + 1) hk
      rw [show j + 1 + k = j + (k + 1) by omega]; exact this
    rw [toldFrom, placesFrom, show (j : Int) + 1 = ((j + 1 : Nat) : Int) by omega, ih]
    by_cases hy : y = 1
    · rw [if_pos hy, if_pos hy, List.map_cons, Int.toNat_natCast]
      have : u = x.getD j ByteArray.empty := hx 0 hy
      rw [this]
    · rw [if_neg hy, if_neg hy]
theorem places_congr : ∀ (l m : List Int) (j : Int), l.length = m.length → (∀ k, l.getD k 0 = 1 ↔ m.getD k 0 = 1) → placesFrom l j = placesFrom m j
  | [], [], j, _, _ => rfl
  | [], y :: m, j, h, _ => by simp at h
  | x :: l, [], j, h, _ => by simp at h
  | x :: l, y :: m, j, h, hx => by
    have h0 : x = 1 ↔ y = 1 := hx 0
    rw [placesFrom, placesFrom, places_congr l m (j + 1) (by simpa using h) fun k => hx (k + 1)]
    by_cases hc : x = 1
    · rw [if_pos hc, if_pos (h0.1 hc)]
    · rw [if_neg hc, if_neg (fun g => hc (h0.2 g))]
theorem places_mem : ∀ (l : List Int) (j y : Int), y ∈ placesFrom l j → j ≤ y ∧ y < j + (l.length : Int)
  | [], j, y, h => by simp [placesFrom] at h
  | x :: t, j, y, h => by
    rw [placesFrom] at h
    rw [List.length_cons]
    split at h
    · rcases List.mem_cons.1 h with rfl | h
      · omega
      · have := places_mem t (j + 1) y h; omega
    · have := places_mem t (j + 1) y h; omega
theorem left_iff {n : Nat} {x : List ByteArray} {e : Eqn} (hok : okW e.1.2 = true) (hr : rtS e.1.1 e.1.2 = true) (hm : Made n x e) : leftB e = true ↔ ∃ b, (val e.1.2).testBit b = true := by
  have hb : ∀ b, (val e.1.2).testBit b = true → b < e.1.1.toNat := fun b hc => by
    apply Nat.lt_of_not_le
    intro hle
    have := Nat.testBit_lt_two_pow (Nat.lt_of_lt_of_le (rt_lt hr) (Nat.pow_le_pow_right (by omega) hle))
    rw [this] at hc; cases hc
  rw [leftB_eq]; unfold leftI
  rw [if_pos hr]
  by_cases h : ∃ b, (val e.1.2).testBit b = true
  · obtain ⟨b, hb0⟩ := h
    have hm := (nat_mem_plc (val e.1.2) e.1.1.toNat b).2 ⟨hb b hb0, hb0⟩
    rw [← pl_plc hok hr] at hm
    have := List.length_pos_of_mem hm
    rw [decide_eq_true (by omega : (0 : Int) < ((plS e.1.2).length : Nat)), Bool.true_or]
    exact ⟨fun _ => ⟨b, hb0⟩, fun _ => rfl⟩
  · have hz : ∀ b, (val e.1.2).testBit b = false := fun b => by
      cases hc : (val e.1.2).testBit b with
      | false => rfl
      | true => exact absurd ⟨b, hc⟩ h
    have hp : plS e.1.2 = [] := by
      rw [pl_plc hok hr]
      apply List.eq_nil_iff_forall_not_mem.2
      intro y hy
      obtain ⟨i, _, h2, _⟩ := (mem_plc _ _ _).1 hy
      rw [hz] at h2; cases h2
    have hno : nought e.2 = true := by
      rw [nought_iff, hm, sel_zero _ _ (fun b _ => hz b), txt_size, bytes_txt (zb_ok n), zb_len]
    rw [hp, hno]
    simp [h]
/-- Equations that blocks make. -/
def Of (n : Int) (x : List ByteArray) (e : Eqn) : Prop := e.1.1 = (x.length : Int) ∧ okW e.1.2 = true ∧ rtS e.1.1 e.1.2 = true ∧ e.2 = txt (sumS n (pickL x e.1.2))
theorem Of.made {n : Int} {x : List ByteArray} (hs : ∀ s, s ∈ x → s.size = n.toNat) {e : Eqn} (h : Of n x e) : Made n.toNat x e := by
  obtain ⟨h1, h2, h3, h4⟩ := h
  rw [h1] at h3
  rw [pick_sel h2 h3 rfl hs] at h4
  exact h4
theorem of_made {n : Int} {x : List ByteArray} (hs : ∀ s, s ∈ x → s.size = n.toNat) {e : Eqn} (h1 : e.1.1 = (x.length : Int)) (h2 : okW e.1.2 = true) (h3 : rtS e.1.1 e.1.2 = true) (h : Made n.toNat x e) : Of n x e := by
  refine ⟨h1, h2, h3, ?_⟩
  rw [h1] at h3
  rw [pick_sel h2 h3 rfl hs]; exact h
section
variable {n : Int} {x : List ByteArray} (hn : 0 ≤ n ∧ n ≤ 64) (hx : 1 ≤ x.length ∧ x.length ≤ 64) (hs : ∀ s, s ∈ x → s.size = n.toNat)
include hn hx hs
theorem po_may {r : List Eqn} (hl : r.length ≤ 64) (h : ∀ e, e ∈ r → Of n x e) : mayB (x.length : Int) r = true := by
  have hz : ∀ e, e ∈ r → e.2.size = n.toNat := fun e he => made_size hs ((h e he).made hs)
  refine mayB_iff.2 ⟨by omega, hl, fun e he => ⟨(h e he).1, (h e he).2.2.1, ?_, by have := hz e he; omega⟩⟩
  cases r with
  | nil => simp at he
  | cons a t => rw [hz e he]; exact (hz a List.mem_cons_self).symm
theorem po_start {r : List Eqn} (hl : r.length ≤ 64) (h : ∀ e, e ∈ r → Of n x e) : PO n.toNat x r r (List.replicate x.length ByteArray.empty) (List.replicate x.length 0) where
  inv := by
    have := pinv_start (z := (x.length : Int)) (okE_iff.2 fun e he => (h e he).2.1) (po_may hn hx hs hl h)
    rwa [Int.toNat_natCast] at this
  made := fun e he => (h e he).made hs
  told := fun j hj => by
    rw [List.getD_eq_getElem?_getD, List.getElem?_replicate] at hj
    split at hj <;> cases hj
  rel := ⟨id, by rw [List.map_id], fun e _ b => by
    have : (List.replicate x.length (0 : Int)).getD b 0 ≠ 1 := by
      rw [List.getD_eq_getElem?_getD, List.getElem?_replicate]
      split <;> simp
    rw [decide_eq_true this, Bool.and_true]; rfl⟩
  ht := by simp
theorem po_end {r : List Eqn} (hl : r.length ≤ 64) (h : ∀ e, e ∈ r → Of n x e) : PO n.toNat x r (pEnd (x.length : Int) r).1 (pEnd (x.length : Int) r).2.1 (pEnd (x.length : Int) r).2.2 ∧ stepS (pEnd (x.length : Int) r).1 < 0 := by
  have h0 := po_start hn hx hs hl h
  have hz := zeros_le (List.replicate x.length (0 : Int))
  rw [List.length_replicate] at hz
  rw [pEnd_eq]; unfold pEndI
  rw [Int.toNat_natCast]
  exact ⟨PO.all hs (by omega) h0, peel_closed h0.inv (by omega)⟩
theorem po_told {r : List Eqn} (hl : r.length ≤ 64) (h : ∀ e, e ∈ r → Of n x e) : pTold (x.length : Int) r = (pAt (x.length : Int) r).map (fun i => x.getD i.toNat ByteArray.empty) ∧ ∀ i, i ∈ pAt (x.length : Int) r → 0 ≤ i ∧ i < (x.length : Int) := by
  obtain ⟨hE, _⟩ := po_end hn hx hs hl h
  have hm := po_may hn hx hs hl h
  rw [pTold_eq, pAt_eq]; unfold pToldI pAtI
  rw [if_pos hm, if_pos hm]
  have hlen := hE.inv.2.1
  rw [Int.toNat_natCast] at hlen
  refine ⟨?_, fun i hi => ?_⟩
  · have := told_map x _ _ 0 (by rw [hE.ht, hlen]) fun k hk => by rw [Nat.zero_add]; exact hE.told k hk
    exact this
  · have := places_mem _ _ _ hi
    omega
theorem po_left {r : List Eqn} (hl : r.length ≤ 64) (h : ∀ e, e ∈ r → Of n x e) : (pLeft (x.length : Int) r).length ≤ 64 ∧ (∀ e, e ∈ pLeft (x.length : Int) r → Of n x e) ∧ stepS (pLeft (x.length : Int) r) = -1 := by
  obtain ⟨hE, hS⟩ := po_end hn hx hs hl h
  have hm := po_may hn hx hs hl h
  rw [pLeft_eq]; unfold pLeftI
  rw [if_pos hm]
  obtain ⟨g, hg, _⟩ := hE.rel
  have hlen : (pEnd (x.length : Int) r).1.length = r.length := by rw [hg, List.length_map]
  refine ⟨by have := List.length_filter_le leftB (pEnd (x.length : Int) r).1; omega, fun e he => ?_, step_none fun e he => step_neg hS e (List.mem_filter.1 he).1⟩
  have he := (List.mem_filter.1 he).1
  obtain ⟨g1, g2, g3⟩ := hE.inv.2.2.1 e he
  exact of_made hs g1 g2 g3 (hE.made e he)
theorem po_perm {r q : List Eqn} (hl : r.length ≤ 64) (h : ∀ e, e ∈ r → Of n x e) (hp : r.Perm q) : pAt (x.length : Int) r = pAt (x.length : Int) q ∧ (pLeft (x.length : Int) r).length = (pLeft (x.length : Int) q).length := by
  have hq : ∀ e, e ∈ q → Of n x e := fun e he => h e (hp.mem_iff.2 he)
  have hlq : q.length ≤ 64 := by rw [← hp.length_eq]; exact hl
  obtain ⟨hE, hS⟩ := po_end hn hx hs hl h
  obtain ⟨hE2, hS2⟩ := po_end hn hx hs hlq hq
  have c1 := hE.closed hS
  have c2 := hE2.closed hS2
  have h0 := po_start hn hx hs hl h
  have h02 := po_start hn hx hs hlq hq
  have zr : ∀ b (F : Nat → Prop), (List.replicate x.length (0 : Int)).getD b 0 = 1 → F b := fun b F hb => by
    rw [List.getD_eq_getElem?_getD, List.getElem?_replicate] at hb
    split at hb <;> cases hb
  have hF : ∀ k, (pEnd (x.length : Int) r).2.2.getD k 0 = 1 ↔ (pEnd (x.length : Int) q).2.2.getD k 0 = 1 := fun k => by
    constructor
    · intro hk
      rw [pEnd_eq] at hk; unfold pEndI at hk
      rw [Int.toNat_natCast] at hk
      exact PO.least hs (by omega) (fun e he => hp.mem_iff.1 he) c2 h0 (fun b hb => zr b (fun b => (pEnd (x.length : Int) q).2.2.getD b 0 = 1) hb) k hk
    · intro hk
      rw [pEnd_eq] at hk; unfold pEndI at hk
      rw [Int.toNat_natCast] at hk
      exact PO.least hs (by omega) (fun e he => hp.mem_iff.2 he) c1 h02 (fun b hb => zr b (fun b => (pEnd (x.length : Int) r).2.2.getD b 0 = 1) hb) k hk
  have hm := po_may hn hx hs hl h
  have hm2 := po_may hn hx hs hlq hq
  rw [pAt_eq, pLeft_eq]; unfold pAtI pLeftI
  rw [if_pos hm, if_pos hm2, if_pos hm, if_pos hm2]
  refine ⟨places_congr _ _ _ (by rw [hE.inv.2.1, hE2.inv.2.1]) hF, ?_⟩
  have key : ∀ {r : List Eqn} {t : List ByteArray} {l : List Int} {r0 : List Eqn}, PO n.toNat x r0 r t l → ∃ p : Eqn → Bool, (r.filter leftB).length = (r0.filter p).length ∧ ∀ e, e ∈ r0 → (p e = true ↔ ∃ b, (val e.1.2).testBit b = true ∧ l.getD b 0 ≠ 1) := fun {r t l r0} hP => by
    obtain ⟨g, rfl, hg⟩ := hP.rel
    refine ⟨leftB ∘ g, by rw [List.filter_map, List.length_map], fun e he => ?_⟩
    have hm : g e ∈ r0.map g := List.mem_map.2 ⟨e, he, rfl⟩
    obtain ⟨_, g2, g3⟩ := hP.inv.2.2.1 _ hm
    show leftB (g e) = true ↔ _
    rw [left_iff g2 g3 (hP.made _ hm)]
    constructor
    · rintro ⟨b, hb⟩
      rw [hg e he b] at hb
      simp only [Bool.and_eq_true, decide_eq_true_eq] at hb
      exact ⟨b, hb⟩
    · rintro ⟨b, h1, h2⟩
      exact ⟨b, by rw [hg e he b, h1, decide_eq_true h2]; rfl⟩
  obtain ⟨p1, k1, k2⟩ := key hE
  obtain ⟨p2, k3, k4⟩ := key hE2
  rw [k1, k3]
  have e1 : q.filter p2 = q.filter p1 := List.filter_congr fun e he => by
    have a := k2 e (hp.mem_iff.2 he)
    have b := k4 e he
    rw [Bool.eq_iff_iff, a, b]
    constructor
    · rintro ⟨c, h1, h2⟩; exact ⟨c, h1, fun h => h2 ((hF c).1 h)⟩
    · rintro ⟨c, h1, h2⟩; exact ⟨c, h1, fun h => h2 ((hF c).2 h)⟩
  rw [e1]
  exact (hp.filter p1).length_eq
end
/-- The order that the law asks for. -/
theorem turned_perm {r : List Eqn} {by' : Nat} (hb : by' < r.length) : r.Perm ((List.range r.length).map fun i => r.getD ((by' + r.length - i) % r.length) noE) := by
  have e : ((List.range r.length).map fun i => r.getD ((by' + r.length - i) % r.length) noE) = (r.take (by' + 1)).reverse ++ (r.drop (by' + 1)).reverse := by
    have l1 : (r.take (by' + 1)).length = by' + 1 := by rw [List.length_take]; omega
    refine List.ext_getElem (by simp; omega) fun i h1 h2 => ?_
    rw [List.length_map, List.length_range] at h1
    rw [List.getElem_map, List.getElem_range]
    by_cases hi : i ≤ by'
    · have em : (by' + r.length - i) % r.length = by' - i := by
        rw [show by' + r.length - i = (by' - i) + r.length by omega, Nat.add_mod_right, Nat.mod_eq_of_lt (by omega)]
      rw [em, getD_eqn (by omega), List.getElem_append_left (by rw [List.length_reverse]; omega), List.getElem_reverse, List.getElem_take]
      congr 1
      omega
    · have em : (by' + r.length - i) % r.length = by' + r.length - i := Nat.mod_eq_of_lt (by omega)
      rw [em, getD_eqn (by omega), List.getElem_append_right (by rw [List.length_reverse]; omega), List.getElem_reverse, List.getElem_drop]
      congr 1
      rw [List.length_reverse, List.length_drop, l1]
      omega
  rw [e]
  have h1 : (r.take (by' + 1) ++ r.drop (by' + 1)) = r := List.take_append_drop _ _
  have h2 := ((r.take (by' + 1)).reverse_perm.append (r.drop (by' + 1)).reverse_perm).symm
  rwa [h1] at h2
theorem okM_iff' {m : List (Int × List Int)} : okM m = true ↔ ∀ e, e ∈ m → okW e.2 = true := okM_iff
theorem tmodA (a : Int) {b : Int} (hb : 0 < b) : -b < a.tmod b ∧ a.tmod b < b := by
  have h1 := Int.tmod_lt_of_pos a hb
  have h2 := Int.lt_tmod_of_pos a hb
  exact ⟨h2, h1⟩
theorem remA (a : Int) {b : Int} (hb : 0 < b) : ∃ v, divI .rem .i64 a b = some v ∧ -b < v ∧ v < b := ⟨_, divI_rem (by omega), tmodA a hb⟩
theorem remB {a b : Int} (ha : 0 ≤ a) (hb : 0 < b) : ∃ v, divI .rem .i64 a b = some v ∧ 0 ≤ v ∧ v < b := ⟨_, rem_pos ha hb, Int.emod_nonneg _ (by omega), Int.emod_lt_of_pos _ hb⟩
theorem take3 (l : List Int) : (l.drop 0).take (min l.length 3 - 0) = l.take 3 := by
  rw [List.drop_zero, Nat.sub_zero]
  by_cases h : l.length ≤ 3
  · rw [Nat.min_eq_left h, List.take_length, List.take_of_length_le h]
  · rw [Nat.min_eq_right (by omega)]
theorem takeK {α : Type} (l : List α) (k : Nat) : (l.drop 0).take (min l.length k - 0) = l.take k := by
  rw [List.drop_zero, Nat.sub_zero]
  by_cases h : l.length ≤ k
  · rw [Nat.min_eq_left h, List.take_length, List.take_of_length_le h]
  · rw [Nat.min_eq_right (by omega)]
theorem take0 {α : Type} (l : List α) : (l.drop 0).take l.length = l := by rw [List.drop_zero, List.take_length]
/-- A text as a block of n bytes. -/
noncomputable def padB (n : Nat) (s : ByteArray) : List Int := (List.replicate n (0 : Int)).take 0 ++ ((bytesL s).take n) ++ (List.replicate n (0 : Int)).drop (0 + ((bytesL s).take n).length)
theorem pad_len (n : Nat) (s : ByteArray) : (padB n s).length = n := by
  unfold padB
  have : ((bytesL s).take n).length ≤ n := by rw [List.length_take]; omega
  rw [List.take_zero, List.nil_append, List.length_append, List.length_drop, List.length_replicate]; omega
noncomputable def ownB (n : Int) (s : ByteArray) : ByteArray := txt (((padB n.toNat s).drop 0).take n.toNat)
theorem own_size {n : Int} (s : ByteArray) : (ownB n s).size = n.toNat := by
  unfold ownB
  rw [txt_size, List.drop_zero, List.length_take, pad_len]; omega
/-- The equations of blocks. -/
noncomputable def keepP (n : Int) (x : List ByteArray) (r : Int × List Int) : Bool := pickE n x r.1 (r.2.take 3) == 0
noncomputable def eqP (n : Int) (x : List ByteArray) (r : Int × List Int) : Eqn := ((r.1, r.2.take 3), pickT n x r.1 (r.2.take 3))
noncomputable def eqsP (n : Int) (x : List ByteArray) (m : List (Int × List Int)) : List Eqn := (m.filter (keepP n x)).map (eqP n x)
theorem eqsP_cons (n : Int) (x : List ByteArray) (r : Int × List Int) (m : List (Int × List Int)) : eqsP n x (r :: m) = if keepP n x r = true then eqP n x r :: eqsP n x m else eqsP n x m := by
  unfold eqsP
  by_cases h : keepP n x r = true
  · rw [List.filter_cons_of_pos h, if_pos h]; rfl
  · rw [List.filter_cons_of_neg h, if_neg h]
theorem eqs_of {n : Int} {x : List ByteArray} {m : List (Int × List Int)} (hok : okM m = true) : ∀ e, e ∈ eqsP n x m → Of n x e := fun e he => by
  obtain ⟨r, hr, rfl⟩ := List.mem_map.1 he
  obtain ⟨h1, h2⟩ := List.mem_filter.1 hr
  have hw : okW (r.2.take 3) = true := okW_iff.2 (ok_take (okW_iff.1 (okM_iff.1 hok _ h1)) 3)
  have h3 : pickE n x r.1 (r.2.take 3) = 0 := by simpa [keepP] using h2
  have h4 := h3
  rw [pickE_eq] at h4; unfold pickEI at h4
  split at h4
  · split at h4
    · rename_i hc
      refine ⟨hc.2, hw, hc.1, ?_⟩
      show pickT n x r.1 (r.2.take 3) = _
      rw [pickT_eq]; unfold pickTI
      rw [if_pos h3]; rfl
    · cases h4
  · cases h4
theorem eqs_len {n : Int} {x : List ByteArray} {m : List (Int × List Int)} : (eqsP n x m).length ≤ m.length := by
  unfold eqsP
  rw [List.length_map]
  exact List.length_filter_le _ _
theorem of_pick {n : Int} {x : List ByteArray} {e : Eqn} (hb : bok n x = true) (h : Of n x e) : pickE n x e.1.1 e.1.2 = 0 ∧ pickT n x e.1.1 e.1.2 = e.2 := by
  obtain ⟨h1, h2, h3, h4⟩ := h
  have h5 : pickE n x e.1.1 e.1.2 = 0 := by
    rw [pickE_eq]; unfold pickEI
    rw [if_pos hb, if_pos ⟨h3, h1⟩]
  refine ⟨h5, ?_⟩
  rw [pickT_eq]; unfold pickTI
  rw [if_pos h5, h4]
theorem upTo3 (n : Nat) (k : Nat) {c : Int} (h : c = (k : Int)) : upTo (min ((n : Nat) : Int) c) n = some (min n k) := by subst h; rw [upTo_of (by omega) (by omega)]; congr 1; omega
/-! downpour/downpourlaw15.PeelOrder -/
noncomputable abbrev qd28 (fuel : Nat) : Ctx Out := (fnX Tryd.prog mode16 T_Step fuel 254 0)
noncomputable abbrev qd29 : Nat := 28948022309329048855892746252171976963317496166405189249707254480882909324042
noncomputable abbrev qd30 : Code := (bodyOf Tryd.prog 9)
noncomputable abbrev qd31 : Nat × V := (8, vB false)
noncomputable abbrev qd32 : Code := (sub qd30 [1, 1, 1, 1, 1, 0, 1, 0, 0])
noncomputable abbrev qd33 : Nat := 28948022309329048855892746252171976963317496166410141009864107771606354338571
noncomputable abbrev qd34 : Nat := 28948022309329048855892746252169122467932084246648024437925497011709736657674
noncomputable abbrev qd35 : Nat := 28948022309329048855892698361686324904290672468065542562702407916384875193096
noncomputable abbrev qd36 : Nat := 28948021446610755507072272822827494178689314610021519488566076606666244358912
noncomputable abbrev qd37 : Nat × Option Blk := (1, some ⟨74, .agg [vN, vN, vN], true⟩)
noncomputable abbrev qd38 : List Nat := [1, 3, 8, 9, 13, 62, 63, 64]
noncomputable abbrev qd39 : Nat × V := (18, .ptr 2 3 0 0)
noncomputable abbrev qd40 : Code := (sub qd30 [1, 1, 1, 1, 1, 1, 1, 1, 1, 1, 1, 1, 1, 1, 1, 0, 1, 0, 0])
noncomputable abbrev qd41 : Code := (sub qd30 [1, 1, 1, 1, 1, 1, 1, 1, 1, 1, 0, 1, 0, 0])
noncomputable abbrev qd42 : Code := (sub qd30 [1, 1, 1, 1, 1, 1, 1, 1, 1, 0, 1, 0, 0])
noncomputable abbrev qd43 : Nat × V := (18, .ptr 1 3 0 0)
noncomputable abbrev qd44 : List Nat := [1, 1, 1, 1, 1, 1, 1, 1, 1, 1, 0, 1, 0]
noncomputable abbrev qd45 : List Nat := [1, 1, 1, 1, 1, 1, 1, 1, 1, 0, 1, 0]
noncomputable abbrev qd46 : List Nat := [1, 3, 8, 9, 13, 18, 123, 124, 125]
noncomputable abbrev qd47 : List Nat := [1, 3, 8, 9, 13, 18, 152, 153, 154]
noncomputable abbrev qd48 : Code := (sub qd30 [1, 1, 1, 0, 1, 0, 0])
noncomputable abbrev qd49 : List Nat := [3, 8, 9, 13, 18, 28, 209, 210]
noncomputable abbrev qd50 : List Nat := [1, 1, 1, 1, 1, 1, 1, 1, 1, 1, 1, 1, 1, 1, 1, 0, 1, 0]
noncomputable abbrev qd51 : List Nat := [1, 1, 1, 1, 1, 0, 1, 0]
noncomputable abbrev qd52 : List Nat := [0, 1, 3, 8, 9, 41, 42, 43]
noncomputable def lawPOF_s3 {R : Type} (w0 w5 : Int) (w4 : List ByteArray) (v2 : Int) (w1 : List ByteArray) (w2 : Nat) (m : List (Int × List Int)) (q : Int) (c0 : Nat → Int → List ByteArray → Option R) (c1 : Nat → List ByteArray → Option R) : Option R :=
  br (decide (w0 < w5))
    (bnd (ix w4 w0) fun e0 =>
    bnd (mkN v2 v2 1) fun n0 =>
    grd (Nat.ble (0 + n0) (((List.replicate n0 (0 : Int)).take 0 ++ ((bytesL e0).take n0) ++ (List.replicate n0 (0 : Int)).drop (0 + ((bytesL e0).take n0).length)).length)) <|
    grd (Nat.beq w1.length w2) <|
    grd (okN (w2 + 1) 16) <|
    c0 ((w1 ++ [(txt (((((List.replicate n0 (0 : Int)).take 0 ++ ((bytesL e0).take n0) ++ (List.replicate n0 (0 : Int)).drop (0 + ((bytesL e0).take n0).length))).drop 0).take n0))]).length) (IntKind.i64.wrap (w0 + 1)) (w1 ++ [(txt (((((List.replicate n0 (0 : Int)).take 0 ++ ((bytesL e0).take n0) ++ (List.replicate n0 (0 : Int)).drop (0 + ((bytesL e0).take n0).length))).drop 0).take n0))]))
    (c1 w2 w1)
theorem lawPOF_s3_eq (fuel k : Nat) (K : Ex → St → Option Out) (w0 w5 : Int) (w4 : List ByteArray) (v2 : Int) (w1 : List ByteArray) (w2 : Nat) (m : List (Int × List Int)) (q : Int) : lpN qd48 (qd28 fuel) qd33 qd52 (k + 1) ⟨[(0, vR m), (1, vI v2), (3, vI q), qd31, (9, .sl 0 1 0 w2), (41, .ls w4), (42, vI w5), (43, vI w0)], [(0, some ⟨9, .ls w1, true⟩)], 1, none⟩ K = lawPOF_s3 w0 w5 w4 v2 w1 w2 m q (fun a0 a1 a2 => lpN qd48 (qd28 fuel) qd33 qd52 k ⟨[(0, vR m), (1, vI v2), (3, vI q), qd31, (9, .sl 0 1 0 a0), (41, .ls w4), (42, vI w5), (43, vI a1)], [(0, some ⟨9, .ls a2, true⟩)], 1, none⟩ K) (fun a3 a4 => K (.exit 0) ⟨[(0, vR m), (1, vI v2), (3, vI q), qd31, (9, .sl 0 1 0 a3)], [(0, some ⟨9, .ls a4, true⟩)], 1, none⟩) := by kernel_rfl
noncomputable def lawPOF_l2 {R : Type} (fuel : Nat) (m : List (Int × List Int)) (v2 q : Int) (w4 : List ByteArray) (w5 : Int) (k0 : Nat → List ByteArray → Option R) : Nat → Nat → Int → List ByteArray → Option R
  | 0, _, _, _ => none
  | k + 1, w0, w1, w2 =>
    (lawPOF_s3 w1 w5 w4 v2 w2 w0 m q (fun a0 a1 a2 => ( lawPOF_l2 fuel m v2 q w4 w5 k0 k a0 a1 a2 )) (fun a3 a4 => k0 a3 a4))
theorem lawPOF_l2_eq (fuel : Nat) (m : List (Int × List Int)) (v2 q : Int) (w4 : List ByteArray) (w5 : Int) (K : Ex → St → Option Out) : ∀ (k w0 : Nat) (w1 : Int) (w2 : List ByteArray), lpN qd48 (qd28 fuel) qd33 qd52 k ⟨[(0, vR m), (1, vI v2), (3, vI q), qd31, (9, .sl 0 1 0 w0), (41, .ls w4), (42, vI w5), (43, vI w1)], [(0, some ⟨9, .ls w2, true⟩)], 1, none⟩ K = lawPOF_l2 fuel m v2 q w4 w5 (fun y0 y1 => K (.exit 0) ⟨[(0, vR m), (1, vI v2), (3, vI q), qd31, (9, .sl 0 1 0 y0)], [(0, some ⟨9, .ls y1, true⟩)], 1, none⟩) k w0 w1 w2
  | 0, _, _, _ => rfl
  | k + 1, w0, w1, w2 => by
    unfold lawPOF_l2
    exact (lawPOF_s3_eq fuel k K w1 w5 w4 v2 w2 w0 m q).trans (congr (congr (Eq.refl (lawPOF_s3 (R := Out) w1 w5 w4 v2 w2 w0 m q)) (funext fun a0 => funext fun a1 => funext fun a2 => lawPOF_l2_eq fuel m v2 q w4 w5 K k a0 a1 a2)) (rfl))
noncomputable def lawPOF_s2 {R : Type} (w5 : Int) (w4 : List ByteArray) (v2 : Int) (m : List (Int × List Int)) (q : Int) (c0 : Nat → Int → List ByteArray → Option R) (c1 : Option R) : Option R :=
  br (decide (0 < w5))
    (bnd (ix w4 0) fun e0 =>
    bnd (mkN v2 v2 1) fun n0 =>
    grd (Nat.ble (0 + n0) (((List.replicate n0 (0 : Int)).take 0 ++ ((bytesL e0).take n0) ++ (List.replicate n0 (0 : Int)).drop (0 + ((bytesL e0).take n0).length)).length)) <|
    c0 1 1 ([(txt (((((List.replicate n0 (0 : Int)).take 0 ++ ((bytesL e0).take n0) ++ (List.replicate n0 (0 : Int)).drop (0 + ((bytesL e0).take n0).length))).drop 0).take n0))]))
    (c1)
theorem lawPOF_s2_eq (fuel k : Nat) (K : Ex → St → Option Out) (w5 : Int) (w4 : List ByteArray) (v2 : Int) (m : List (Int × List Int)) (q : Int) : lpN qd48 (qd28 fuel) qd33 qd52 (k + 1) ⟨[(0, vR m), (1, vI v2), (3, vI q), qd31, (9, vN), (41, .ls w4), (42, vI w5), (43, vI 0)], [], 0, none⟩ K = lawPOF_s2 w5 w4 v2 m q (fun a0 a1 a2 => lpN qd48 (qd28 fuel) qd33 qd52 k ⟨[(0, vR m), (1, vI v2), (3, vI q), qd31, (9, .sl 0 1 0 a0), (41, .ls w4), (42, vI w5), (43, vI a1)], [(0, some ⟨9, .ls a2, true⟩)], 1, none⟩ K) (K (.exit 0) ⟨[(0, vR m), (1, vI v2), (3, vI q), qd31, (9, vN)], [], 0, none⟩) := by kernel_rfl
noncomputable def lawPOF_l1 {R : Type} (fuel : Nat) (m : List (Int × List Int)) (v2 q : Int) (k0 : Nat → List ByteArray → Option R) (k1 : Option R) : Nat → List ByteArray → Int → Option R
  | 0, _, _ => none
  | k + 1, w4, w5 =>
    (lawPOF_s2 w5 w4 v2 m q (fun a0 a1 a2 => (lawPOF_l2 fuel m v2 q w4 w5 (fun x0 x1 => k0 x0 x1) k a0 a1 a2)) (k1))
theorem lawPOF_l1_eq (fuel : Nat) (m : List (Int × List Int)) (v2 q : Int) (K : Ex → St → Option Out) : ∀ (k : Nat) (w4 : List ByteArray) (w5 : Int), lpN qd48 (qd28 fuel) qd33 qd52 k ⟨[(0, vR m), (1, vI v2), (3, vI q), qd31, (9, vN), (41, .ls w4), (42, vI w5), (43, vI 0)], [], 0, none⟩ K = lawPOF_l1 fuel m v2 q (fun y0 y1 => K (.exit 0) ⟨[(0, vR m), (1, vI v2), (3, vI q), qd31, (9, .sl 0 1 0 y0)], [(0, some ⟨9, .ls y1, true⟩)], 1, none⟩) (K (.exit 0) ⟨[(0, vR m), (1, vI v2), (3, vI q), qd31, (9, vN)], [], 0, none⟩) k w4 w5
  | 0, _, _ => rfl
  | k + 1, w4, w5 => by
    unfold lawPOF_l1
    exact (lawPOF_s2_eq fuel k K w5 w4 v2 m q).trans (congr (congr (Eq.refl (lawPOF_s2 (R := Out) w5 w4 v2 m q)) (funext fun a0 => funext fun a1 => funext fun a2 => lawPOF_l2_eq fuel m v2 q w4 w5 K k a0 a1 a2)) (rfl))
noncomputable def lawPOF_s6 {R : Type} (w0 w1 : Int) (w2 : List (Int × List Int)) (v2 : Int) (x0 : List ByteArray) (x1 : Nat) (w3 : List ((Int × List Int) × ByteArray)) (w4 : Nat) (q : Int) (c0 : Nat → Int → (List ((Int × List Int) × ByteArray)) → Option R) (c1 : Nat → Int → (List ((Int × List Int) × ByteArray)) → Option R) (c2 : Nat → (List ((Int × List Int) × ByteArray)) → Option R) : Option R :=
  br (decide (w0 < w1))
    (bnd (ix w2 w0) fun e0 =>
    bnd (upTo (min ((e0.2.length : Nat) : Int) 3) e0.2.length) fun j0 =>
    grd (okW ((e0.2.drop 0).take (j0 - 0))) <|
    br (((pickE v2 ((x0.drop 0).take x1) e0.1 ((e0.2.drop 0).take (j0 - 0))) : Int) == 0)
      (grd (Nat.beq w3.length w4) <|
      grd (okN (w4 + 1) 48) <|
      c0 ((w3 ++ [((e0.1, ((e0.2.drop 0).take (j0 - 0))), (pickT v2 ((x0.drop 0).take x1) e0.1 ((e0.2.drop 0).take (j0 - 0))))]).length) (IntKind.i64.wrap (w0 + 1)) (w3 ++ [((e0.1, ((e0.2.drop 0).take (j0 - 0))), (pickT v2 ((x0.drop 0).take x1) e0.1 ((e0.2.drop 0).take (j0 - 0))))]))
      (c1 w4 (IntKind.i64.wrap (w0 + 1)) w3))
    (c2 w4 w3)
theorem lawPOF_s6_eq (fuel k : Nat) (K : Ex → St → Option Out) (w0 w1 : Int) (w2 : List (Int × List Int)) (v2 : Int) (x0 : List ByteArray) (x1 : Nat) (w3 : List ((Int × List Int) × ByteArray)) (w4 : Nat) (q : Int) : lpN qd32 (qd28 fuel) qd29 qd38 (k + 1) ⟨[(1, vI v2), (3, vI q), qd31, (9, .sl 0 1 0 x1), (13, .sl 1 3 0 w4), (62, vR w2), (63, vI w1), (64, vI w0)], [(0, some ⟨9, .ls x0, true⟩), (1, some ⟨72, .lt (.pair (.pair (.int .i64) (.sl (.int .u64))) .str) w3, true⟩)], 2, none⟩ K = lawPOF_s6 w0 w1 w2 v2 x0 x1 w3 w4 q (fun a0 a1 a2 => lpN qd32 (qd28 fuel) qd29 qd38 k ⟨[(1, vI v2), (3, vI q), qd31, (9, .sl 0 1 0 x1), (13, .sl 1 3 0 a0), (62, vR w2), (63, vI w1), (64, vI a1)], [(0, some ⟨9, .ls x0, true⟩), (1, some ⟨72, .lt (.pair (.pair (.int .i64) (.sl (.int .u64))) .str) a2, true⟩)], 2, none⟩ K) (fun a3 a4 a5 => lpN qd32 (qd28 fuel) qd29 qd38 k ⟨[(1, vI v2), (3, vI q), qd31, (9, .sl 0 1 0 x1), (13, .sl 1 3 0 a3), (62, vR w2), (63, vI w1), (64, vI a4)], [(0, some ⟨9, .ls x0, true⟩), (1, some ⟨72, .lt (.pair (.pair (.int .i64) (.sl (.int .u64))) .str) a5, true⟩)], 2, none⟩ K) (fun a6 a7 => K (.exit 2) ⟨[(1, vI v2), (3, vI q), qd31, (9, .sl 0 1 0 x1), (13, .sl 1 3 0 a6)], [(0, some ⟨9, .ls x0, true⟩), (1, some ⟨72, .lt (.pair (.pair (.int .i64) (.sl (.int .u64))) .str) a7, true⟩)], 2, none⟩) := by kernel_rfl
noncomputable def lawPOF_l4 {R : Type} (fuel : Nat) (v2 q : Int) (x0 : Nat) (w0 : List (Int × List Int)) (w1 : Int) (x1 : List ByteArray) (k0 : Nat → (List ((Int × List Int) × ByteArray)) → Option R) : Nat → Nat → Int → (List ((Int × List Int) × ByteArray)) → Option R
  | 0, _, _, _ => none
  | k + 1, w2, w3, w4 =>
    (lawPOF_s6 w3 w1 w0 v2 x1 x0 w4 w2 q (fun a0 a1 a2 => ( lawPOF_l4 fuel v2 q x0 w0 w1 x1 k0 k a0 a1 a2 )) (fun a3 a4 a5 => ( lawPOF_l4 fuel v2 q x0 w0 w1 x1 k0 k a3 a4 a5 )) (fun a6 a7 => k0 a6 a7))
theorem lawPOF_l4_eq (fuel : Nat) (v2 q : Int) (x0 : Nat) (w0 : List (Int × List Int)) (w1 : Int) (x1 : List ByteArray) (K : Ex → St → Option Out) : ∀ (k w2 : Nat) (w3 : Int) (w4 : List ((Int × List Int) × ByteArray)), lpN qd32 (qd28 fuel) qd29 qd38 k ⟨[(1, vI v2), (3, vI q), qd31, (9, .sl 0 1 0 x0), (13, .sl 1 3 0 w2), (62, vR w0), (63, vI w1), (64, vI w3)], [(0, some ⟨9, .ls x1, true⟩), (1, some ⟨72, .lt (.pair (.pair (.int .i64) (.sl (.int .u64))) .str) w4, true⟩)], 2, none⟩ K = lawPOF_l4 fuel v2 q x0 w0 w1 x1 (fun y0 y1 => K (.exit 2) ⟨[(1, vI v2), (3, vI q), qd31, (9, .sl 0 1 0 x0), (13, .sl 1 3 0 y0)], [(0, some ⟨9, .ls x1, true⟩), (1, some ⟨72, .lt (.pair (.pair (.int .i64) (.sl (.int .u64))) .str) y1, true⟩)], 2, none⟩) k w2 w3 w4
  | 0, _, _, _ => rfl
  | k + 1, w2, w3, w4 => by
    unfold lawPOF_l4
    exact (lawPOF_s6_eq fuel k K w3 w1 w0 v2 x1 x0 w4 w2 q).trans (congr (congr (congr (Eq.refl (lawPOF_s6 (R := Out) w3 w1 w0 v2 x1 x0 w4 w2 q)) (funext fun a0 => funext fun a1 => funext fun a2 => lawPOF_l4_eq fuel v2 q x0 w0 w1 x1 K k a0 a1 a2)) (funext fun a3 => funext fun a4 => funext fun a5 => lawPOF_l4_eq fuel v2 q x0 w0 w1 x1 K k a3 a4 a5)) (rfl))
noncomputable def lawPOF_s5 {R : Type} (w0 w1 : Int) (w2 : List (Int × List Int)) (v2 : Int) (x0 : List ByteArray) (x1 : Nat) (q : Int) (c0 : Nat → Int → (List ((Int × List Int) × ByteArray)) → Option R) (c1 : (List (Int × List Int)) → Int → Int → Option R) (c2 : Option R) : Option R :=
  br (decide (w0 < w1))
    (bnd (ix w2 w0) fun e0 =>
    bnd (upTo (min ((e0.2.length : Nat) : Int) 3) e0.2.length) fun j0 =>
    grd (okW ((e0.2.drop 0).take (j0 - 0))) <|
    br (((pickE v2 ((x0.drop 0).take x1) e0.1 ((e0.2.drop 0).take (j0 - 0))) : Int) == 0)
      (c0 1 (IntKind.i64.wrap (w0 + 1)) ([((e0.1, ((e0.2.drop 0).take (j0 - 0))), (pickT v2 ((x0.drop 0).take x1) e0.1 ((e0.2.drop 0).take (j0 - 0))))]))
      (c1 w2 w1 (IntKind.i64.wrap (w0 + 1))))
    (c2)
theorem lawPOF_s5_eq (fuel k : Nat) (K : Ex → St → Option Out) (w0 w1 : Int) (w2 : List (Int × List Int)) (v2 : Int) (x0 : List ByteArray) (x1 : Nat) (q : Int) : lpN qd32 (qd28 fuel) qd29 qd38 (k + 1) ⟨[(1, vI v2), (3, vI q), qd31, (9, .sl 0 1 0 x1), (13, vN), (62, vR w2), (63, vI w1), (64, vI w0)], [(0, some ⟨9, .ls x0, true⟩)], 1, none⟩ K = lawPOF_s5 w0 w1 w2 v2 x0 x1 q (fun a0 a1 a2 => lpN qd32 (qd28 fuel) qd29 qd38 k ⟨[(1, vI v2), (3, vI q), qd31, (9, .sl 0 1 0 x1), (13, .sl 1 3 0 a0), (62, vR w2), (63, vI w1), (64, vI a1)], [(0, some ⟨9, .ls x0, true⟩), (1, some ⟨72, .lt (.pair (.pair (.int .i64) (.sl (.int .u64))) .str) a2, true⟩)], 2, none⟩ K) (fun a3 a4 a5 => lpN qd32 (qd28 fuel) qd29 qd38 k ⟨[(1, vI v2), (3, vI q), qd31, (9, .sl 0 1 0 x1), (13, vN), (62, vR a3), (63, vI a4), (64, vI a5)], [(0, some ⟨9, .ls x0, true⟩)], 1, none⟩ K) (K (.exit 2) ⟨[(1, vI v2), (3, vI q), qd31, (9, .sl 0 1 0 x1), (13, vN)], [(0, some ⟨9, .ls x0, true⟩)], 1, none⟩) := by kernel_rfl
noncomputable def lawPOF_l3 {R : Type} (fuel : Nat) (v2 q : Int) (x0 : Nat) (x1 : List ByteArray) (k0 : Nat → (List ((Int × List Int) × ByteArray)) → Option R) (k1 : Option R) : Nat → (List (Int × List Int)) → Int → Int → Option R
  | 0, _, _, _ => none
  | k + 1, w0, w1, w2 =>
    (lawPOF_s5 w2 w1 w0 v2 x1 x0 q (fun a0 a1 a2 => (lawPOF_l4 fuel v2 q x0 w0 w1 x1 (fun x2 x3 => k0 x2 x3) k a0 a1 a2)) (fun a3 a4 a5 => ( lawPOF_l3 fuel v2 q x0 x1 k0 k1 k a3 a4 a5 )) (k1))
theorem lawPOF_l3_eq (fuel : Nat) (v2 q : Int) (x0 : Nat) (x1 : List ByteArray) (K : Ex → St → Option Out) : ∀ (k : Nat) (w0 : List (Int × List Int)) (w1 w2 : Int), lpN qd32 (qd28 fuel) qd29 qd38 k ⟨[(1, vI v2), (3, vI q), qd31, (9, .sl 0 1 0 x0), (13, vN), (62, vR w0), (63, vI w1), (64, vI w2)], [(0, some ⟨9, .ls x1, true⟩)], 1, none⟩ K = lawPOF_l3 fuel v2 q x0 x1 (fun y0 y1 => K (.exit 2) ⟨[(1, vI v2), (3, vI q), qd31, (9, .sl 0 1 0 x0), (13, .sl 1 3 0 y0)], [(0, some ⟨9, .ls x1, true⟩), (1, some ⟨72, .lt (.pair (.pair (.int .i64) (.sl (.int .u64))) .str) y1, true⟩)], 2, none⟩) (K (.exit 2) ⟨[(1, vI v2), (3, vI q), qd31, (9, .sl 0 1 0 x0), (13, vN)], [(0, some ⟨9, .ls x1, true⟩)], 1, none⟩) k w0 w1 w2
  | 0, _, _, _ => rfl
  | k + 1, w0, w1, w2 => by
    unfold lawPOF_l3
    exact (lawPOF_s5_eq fuel k K w2 w1 w0 v2 x1 x0 q).trans (congr (congr (congr (Eq.refl (lawPOF_s5 (R := Out) w2 w1 w0 v2 x1 x0 q)) (funext fun a0 => funext fun a1 => funext fun a2 => lawPOF_l4_eq fuel v2 q x0 w0 w1 x1 K k a0 a1 a2)) (funext fun a3 => funext fun a4 => funext fun a5 => lawPOF_l3_eq fuel v2 q x0 x1 K k a3 a4 a5)) (rfl))
noncomputable def lawPOF_s8 {R : Type} (w0 w1 : Int) (w2 : List Int) (w3 : List ByteArray) (w4 : List ((Int × List Int) × ByteArray)) (x0 : Nat) (x1 : List ByteArray) (v2 q : Int) (x2 : Nat) (x3 : List ((Int × List Int) × ByteArray)) (c0 : List Int → List ByteArray → (List ((Int × List Int) × ByteArray)) → Option R) (c1 : List Int → List ByteArray → (List ((Int × List Int) × ByteArray)) → Option R) (c2 : List Int → List ByteArray → (List ((Int × List Int) × ByteArray)) → Option R) (c3 : List Int → Int → Int → List ByteArray → (List ((Int × List Int) × ByteArray)) → Option R) (c4 : List Int → List ByteArray → (List ((Int × List Int) × ByteArray)) → Option R) : Option R :=
  br (decide (w0 < w1))
    (bnd (ix w2 w0) fun e0 =>
    br (decide (e0 < 0))
      (c0 w2 w3 w4)
      (br (decide (e0 ≥ ((x0 : Nat) : Int)))
        (c1 w2 w3 w4)
        (bnd (ix w3 w0) fun e1 =>
        bnd (below e0 x0) fun j0 =>
        bnd (x1[(0 + j0)]?) fun e2 =>
        br (!(eqS e1 e2))
          (c2 w2 w3 w4)
          (c3 w2 w1 (IntKind.i64.wrap (w0 + 1)) w3 w4))))
    (c4 w2 w3 w4)
theorem lawPOF_s8_eq (fuel k : Nat) (K : Ex → St → Option Out) (w0 w1 : Int) (w2 : List Int) (w3 : List ByteArray) (w4 : List ((Int × List Int) × ByteArray)) (x0 : Nat) (x1 : List ByteArray) (v2 q : Int) (x2 : Nat) (x3 : List ((Int × List Int) × ByteArray)) : lpN qd42 (qd28 fuel) qd34 qd46 (k + 1) ⟨[(1, vI v2), (3, vI q), qd31, (9, .sl 0 1 0 x0), (13, .sl 1 3 0 x2), qd39, (123, vL w2), (124, vI w1), (125, vI w0)], [(0, some ⟨9, .ls x1, true⟩), (1, some ⟨72, .lt (.pair (.pair (.int .i64) (.sl (.int .u64))) .str) x3, false⟩), (2, some ⟨74, .agg [vL w2, .ls w3, .lt (.pair (.pair (.int .i64) (.sl (.int .u64))) .str) w4], true⟩)], 3, none⟩ K = lawPOF_s8 w0 w1 w2 w3 w4 x0 x1 v2 q x2 x3 (fun a0 a1 a2 => K .ret ⟨[(1, vI v2), (3, vI q), qd31, (9, .sl 0 1 0 x0), (13, .sl 1 3 0 x2), qd39], [(0, some ⟨9, .ls x1, true⟩), (1, some ⟨72, .lt (.pair (.pair (.int .i64) (.sl (.int .u64))) .str) x3, false⟩), (2, some ⟨74, .agg [vL a0, .ls a1, .lt (.pair (.pair (.int .i64) (.sl (.int .u64))) .str) a2], true⟩)], 3, none⟩) (fun a3 a4 a5 => K .ret ⟨[(1, vI v2), (3, vI q), qd31, (9, .sl 0 1 0 x0), (13, .sl 1 3 0 x2), qd39], [(0, some ⟨9, .ls x1, true⟩), (1, some ⟨72, .lt (.pair (.pair (.int .i64) (.sl (.int .u64))) .str) x3, false⟩), (2, some ⟨74, .agg [vL a3, .ls a4, .lt (.pair (.pair (.int .i64) (.sl (.int .u64))) .str) a5], true⟩)], 3, none⟩) (fun a6 a7 a8 => K .ret ⟨[(1, vI v2), (3, vI q), qd31, (9, .sl 0 1 0 x0), (13, .sl 1 3 0 x2), qd39], [(0, some ⟨9, .ls x1, true⟩), (1, some ⟨72, .lt (.pair (.pair (.int .i64) (.sl (.int .u64))) .str) x3, false⟩), (2, some ⟨74, .agg [vL a6, .ls a7, .lt (.pair (.pair (.int .i64) (.sl (.int .u64))) .str) a8], true⟩)], 3, none⟩) (fun a9 a10 a11 a12 a13 => lpN qd42 (qd28 fuel) qd34 qd46 k ⟨[(1, vI v2), (3, vI q), qd31, (9, .sl 0 1 0 x0), (13, .sl 1 3 0 x2), qd39, (123, vL a9), (124, vI a10), (125, vI a11)], [(0, some ⟨9, .ls x1, true⟩), (1, some ⟨72, .lt (.pair (.pair (.int .i64) (.sl (.int .u64))) .str) x3, false⟩), (2, some ⟨74, .agg [vL a9, .ls a12, .lt (.pair (.pair (.int .i64) (.sl (.int .u64))) .str) a13], true⟩)], 3, none⟩ K) (fun a14 a15 a16 => K (.exit 4) ⟨[(1, vI v2), (3, vI q), qd31, (9, .sl 0 1 0 x0), (13, .sl 1 3 0 x2), qd39], [(0, some ⟨9, .ls x1, true⟩), (1, some ⟨72, .lt (.pair (.pair (.int .i64) (.sl (.int .u64))) .str) x3, false⟩), (2, some ⟨74, .agg [vL a14, .ls a15, .lt (.pair (.pair (.int .i64) (.sl (.int .u64))) .str) a16], true⟩)], 3, none⟩) := by kernel_rfl
noncomputable def lawPOF_l5 {R : Type} (fuel : Nat) (v2 q : Int) (x0 x1 : Nat) (x2 : List ByteArray) (x3 : List ((Int × List Int) × ByteArray)) (k0 : List Int → List ByteArray → (List ((Int × List Int) × ByteArray)) → Option R) (k1 : List Int → List ByteArray → (List ((Int × List Int) × ByteArray)) → Option R) : Nat → List Int → Int → Int → List ByteArray → (List ((Int × List Int) × ByteArray)) → Option R
  | 0, _, _, _, _, _ => none
  | k + 1, w0, w1, w2, w3, w4 =>
    (lawPOF_s8 w2 w1 w0 w3 w4 x0 x2 v2 q x1 x3 (fun a0 a1 a2 => k0 a0 a1 a2) (fun a3 a4 a5 => k0 a3 a4 a5) (fun a6 a7 a8 => k0 a6 a7 a8) (fun a9 a10 a11 a12 a13 => ( lawPOF_l5 fuel v2 q x0 x1 x2 x3 k0 k1 k a9 a10 a11 a12 a13 )) (fun a14 a15 a16 => k1 a14 a15 a16))
theorem lawPOF_l5_eq (fuel : Nat) (v2 q : Int) (x0 x1 : Nat) (x2 : List ByteArray) (x3 : List ((Int × List Int) × ByteArray)) (K : Ex → St → Option Out) : ∀ (k : Nat) (w0 : List Int) (w1 w2 : Int) (w3 : List ByteArray) (w4 : List ((Int × List Int) × ByteArray)), lpN qd42 (qd28 fuel) qd34 qd46 k ⟨[(1, vI v2), (3, vI q), qd31, (9, .sl 0 1 0 x0), (13, .sl 1 3 0 x1), qd39, (123, vL w0), (124, vI w1), (125, vI w2)], [(0, some ⟨9, .ls x2, true⟩), (1, some ⟨72, .lt (.pair (.pair (.int .i64) (.sl (.int .u64))) .str) x3, false⟩), (2, some ⟨74, .agg [vL w0, .ls w3, .lt (.pair (.pair (.int .i64) (.sl (.int .u64))) .str) w4], true⟩)], 3, none⟩ K = lawPOF_l5 fuel v2 q x0 x1 x2 x3 (fun y0 y1 y2 => K .ret ⟨[(1, vI v2), (3, vI q), qd31, (9, .sl 0 1 0 x0), (13, .sl 1 3 0 x1), qd39], [(0, some ⟨9, .ls x2, true⟩), (1, some ⟨72, .lt (.pair (.pair (.int .i64) (.sl (.int .u64))) .str) x3, false⟩), (2, some ⟨74, .agg [vL y0, .ls y1, .lt (.pair (.pair (.int .i64) (.sl (.int .u64))) .str) y2], true⟩)], 3, none⟩) (fun y3 y4 y5 => K (.exit 4) ⟨[(1, vI v2), (3, vI q), qd31, (9, .sl 0 1 0 x0), (13, .sl 1 3 0 x1), qd39], [(0, some ⟨9, .ls x2, true⟩), (1, some ⟨72, .lt (.pair (.pair (.int .i64) (.sl (.int .u64))) .str) x3, false⟩), (2, some ⟨74, .agg [vL y3, .ls y4, .lt (.pair (.pair (.int .i64) (.sl (.int .u64))) .str) y5], true⟩)], 3, none⟩) k w0 w1 w2 w3 w4
  | 0, _, _, _, _, _ => rfl
  | k + 1, w0, w1, w2, w3, w4 => by
    unfold lawPOF_l5
    exact (lawPOF_s8_eq fuel k K w2 w1 w0 w3 w4 x0 x2 v2 q x1 x3).trans (congr (congr (congr (congr (congr (Eq.refl (lawPOF_s8 (R := Out) w2 w1 w0 w3 w4 x0 x2 v2 q x1 x3)) (rfl)) (rfl)) (rfl)) (funext fun a0 => funext fun a1 => funext fun a2 => funext fun a3 => funext fun a4 => lawPOF_l5_eq fuel v2 q x0 x1 x2 x3 K k a0 a1 a2 a3 a4)) (rfl))
noncomputable def lawPOF_s9 {R : Type} (v2 q : Int) (x0 x1 : Nat) (x2 : List ByteArray) (x3 : List ((Int × List Int) × ByteArray)) (x4 : List Int) (x5 : List ByteArray) (x6 : List ((Int × List Int) × ByteArray)) (c0 : Bool → Option R) : Option R :=
  c0 false
theorem lawPOF_s9_eq (fuel : Nat)  (v2 q : Int) (x0 x1 : Nat) (x2 : List ByteArray) (x3 : List ((Int × List Int) × ByteArray)) (x4 : List Int) (x5 : List ByteArray) (x6 : List ((Int × List Int) × ByteArray)) : (kont (qd28 fuel) qd30 qd45 256 (endK Tryd.prog 0 0 9)) .ret ⟨[(1, vI v2), (3, vI q), qd31, (9, .sl 0 1 0 x0), (13, .sl 1 3 0 x1), qd39], [(0, some ⟨9, .ls x2, true⟩), (1, some ⟨72, .lt (.pair (.pair (.int .i64) (.sl (.int .u64))) .str) x3, false⟩), (2, some ⟨74, .agg [vL x4, .ls x5, .lt (.pair (.pair (.int .i64) (.sl (.int .u64))) .str) x6], true⟩)], 3, none⟩ = lawPOF_s9 v2 q x0 x1 x2 x3 x4 x5 x6 (fun a0 => some (vB a0, [])) := by kernel_rfl
noncomputable def lawPOF_s11 {R : Type} (w0 w1 : Int) (x0 : List ((Int × List Int) × ByteArray)) (v2 : Int) (x1 : List ByteArray) (x2 : Nat) (q : Int) (x3 : Nat) (x4 : List ((Int × List Int) × ByteArray)) (x5 : List Int) (x6 : List ByteArray) (c0 c1 : Option R) (c2 : Int → Int → Option R) (c3 : Option R) : Option R :=
  br (decide (w0 < w1))
    (bnd (ix x0 w0) fun e0 =>
    grd (okW e0.1.2) <|
    br (((pickE v2 ((x1.drop 0).take x2) e0.1.1 e0.1.2) : Int) != 0)
      (c0)
      (br (!(eqS (pickT v2 ((x1.drop 0).take x2) e0.1.1 e0.1.2) e0.2))
        (c1)
        (c2 w1 (IntKind.i64.wrap (w0 + 1)))))
    (c3)
theorem lawPOF_s11_eq (fuel k : Nat) (K : Ex → St → Option Out) (w0 w1 : Int) (x0 : List ((Int × List Int) × ByteArray)) (v2 : Int) (x1 : List ByteArray) (x2 : Nat) (q : Int) (x3 : Nat) (x4 : List ((Int × List Int) × ByteArray)) (x5 : List Int) (x6 : List ByteArray) : lpN qd41 (qd28 fuel) qd35 qd47 (k + 1) ⟨[(1, vI v2), (3, vI q), qd31, (9, .sl 0 1 0 x2), (13, .sl 1 3 0 x3), qd39, (152, .lt (.pair (.pair (.int .i64) (.sl (.int .u64))) .str) x0), (153, vI w1), (154, vI w0)], [(0, some ⟨9, .ls x1, true⟩), (1, some ⟨72, .lt (.pair (.pair (.int .i64) (.sl (.int .u64))) .str) x4, false⟩), (2, some ⟨74, .agg [vL x5, .ls x6, .lt (.pair (.pair (.int .i64) (.sl (.int .u64))) .str) x0], true⟩)], 3, none⟩ K = lawPOF_s11 w0 w1 x0 v2 x1 x2 q x3 x4 x5 x6 (K .ret ⟨[(3, vI q), qd31, (9, .sl 0 1 0 x2), (13, .sl 1 3 0 x3), qd39], [(0, some ⟨9, .ls x1, true⟩), (1, some ⟨72, .lt (.pair (.pair (.int .i64) (.sl (.int .u64))) .str) x4, false⟩), (2, some ⟨74, .agg [vL x5, .ls x6, .lt (.pair (.pair (.int .i64) (.sl (.int .u64))) .str) x0], true⟩)], 3, none⟩) (K .ret ⟨[(3, vI q), qd31, (9, .sl 0 1 0 x2), (13, .sl 1 3 0 x3), qd39], [(0, some ⟨9, .ls x1, true⟩), (1, some ⟨72, .lt (.pair (.pair (.int .i64) (.sl (.int .u64))) .str) x4, false⟩), (2, some ⟨74, .agg [vL x5, .ls x6, .lt (.pair (.pair (.int .i64) (.sl (.int .u64))) .str) x0], true⟩)], 3, none⟩) (fun a0 a1 => lpN qd41 (qd28 fuel) qd35 qd47 k ⟨[(1, vI v2), (3, vI q), qd31, (9, .sl 0 1 0 x2), (13, .sl 1 3 0 x3), qd39, (152, .lt (.pair (.pair (.int .i64) (.sl (.int .u64))) .str) x0), (153, vI a0), (154, vI a1)], [(0, some ⟨9, .ls x1, true⟩), (1, some ⟨72, .lt (.pair (.pair (.int .i64) (.sl (.int .u64))) .str) x4, false⟩), (2, some ⟨74, .agg [vL x5, .ls x6, .lt (.pair (.pair (.int .i64) (.sl (.int .u64))) .str) x0], true⟩)], 3, none⟩ K) (K (.exit 6) ⟨[(3, vI q), qd31, (9, .sl 0 1 0 x2), (13, .sl 1 3 0 x3), qd39], [(0, some ⟨9, .ls x1, true⟩), (1, some ⟨72, .lt (.pair (.pair (.int .i64) (.sl (.int .u64))) .str) x4, false⟩), (2, some ⟨74, .agg [vL x5, .ls x6, .lt (.pair (.pair (.int .i64) (.sl (.int .u64))) .str) x0], true⟩)], 3, none⟩) := by kernel_rfl
noncomputable def lawPOF_l6 {R : Type} (fuel : Nat) (v2 q : Int) (x0 x1 : Nat) (x2 : List ((Int × List Int) × ByteArray)) (x3 : List ByteArray) (x4 : List ((Int × List Int) × ByteArray)) (x5 : List Int) (x6 : List ByteArray) (k0 k1 : Option R) : Nat → Int → Int → Option R
  | 0, _, _ => none
  | k + 1, w0, w1 =>
    (lawPOF_s11 w1 w0 x2 v2 x3 x0 q x1 x4 x5 x6 (k0) (k0) (fun a0 a1 => ( lawPOF_l6 fuel v2 q x0 x1 x2 x3 x4 x5 x6 k0 k1 k a0 a1 )) (k1))
theorem lawPOF_l6_eq (fuel : Nat) (v2 q : Int) (x0 x1 : Nat) (x2 : List ((Int × List Int) × ByteArray)) (x3 : List ByteArray) (x4 : List ((Int × List Int) × ByteArray)) (x5 : List Int) (x6 : List ByteArray) (K : Ex → St → Option Out) : ∀ (k : Nat) (w0 w1 : Int), lpN qd41 (qd28 fuel) qd35 qd47 k ⟨[(1, vI v2), (3, vI q), qd31, (9, .sl 0 1 0 x0), (13, .sl 1 3 0 x1), qd39, (152, .lt (.pair (.pair (.int .i64) (.sl (.int .u64))) .str) x2), (153, vI w0), (154, vI w1)], [(0, some ⟨9, .ls x3, true⟩), (1, some ⟨72, .lt (.pair (.pair (.int .i64) (.sl (.int .u64))) .str) x4, false⟩), (2, some ⟨74, .agg [vL x5, .ls x6, .lt (.pair (.pair (.int .i64) (.sl (.int .u64))) .str) x2], true⟩)], 3, none⟩ K = lawPOF_l6 fuel v2 q x0 x1 x2 x3 x4 x5 x6 (K .ret ⟨[(3, vI q), qd31, (9, .sl 0 1 0 x0), (13, .sl 1 3 0 x1), qd39], [(0, some ⟨9, .ls x3, true⟩), (1, some ⟨72, .lt (.pair (.pair (.int .i64) (.sl (.int .u64))) .str) x4, false⟩), (2, some ⟨74, .agg [vL x5, .ls x6, .lt (.pair (.pair (.int .i64) (.sl (.int .u64))) .str) x2], true⟩)], 3, none⟩) (K (.exit 6) ⟨[(3, vI q), qd31, (9, .sl 0 1 0 x0), (13, .sl 1 3 0 x1), qd39], [(0, some ⟨9, .ls x3, true⟩), (1, some ⟨72, .lt (.pair (.pair (.int .i64) (.sl (.int .u64))) .str) x4, false⟩), (2, some ⟨74, .agg [vL x5, .ls x6, .lt (.pair (.pair (.int .i64) (.sl (.int .u64))) .str) x2], true⟩)], 3, none⟩) k w0 w1
  | 0, _, _ => rfl
  | k + 1, w0, w1 => by
    unfold lawPOF_l6
    exact (lawPOF_s11_eq fuel k K w1 w0 x2 v2 x3 x0 q x1 x4 x5 x6).trans (congr (congr (congr (congr (Eq.refl (lawPOF_s11 (R := Out) w1 w0 x2 v2 x3 x0 q x1 x4 x5 x6)) (rfl)) (rfl)) (funext fun a0 => funext fun a1 => lawPOF_l6_eq fuel v2 q x0 x1 x2 x3 x4 x5 x6 K k a0 a1)) (rfl))
noncomputable def lawPOF_s12 {R : Type} (q : Int) (x0 x1 : Nat) (x2 : List ByteArray) (x3 : List ((Int × List Int) × ByteArray)) (x4 : List Int) (x5 : List ByteArray) (x6 : List ((Int × List Int) × ByteArray)) (c0 : Bool → Option R) : Option R :=
  c0 false
theorem lawPOF_s12_eq (fuel : Nat)  (q : Int) (x0 x1 : Nat) (x2 : List ByteArray) (x3 : List ((Int × List Int) × ByteArray)) (x4 : List Int) (x5 : List ByteArray) (x6 : List ((Int × List Int) × ByteArray)) : (kont (qd28 fuel) qd30 qd44 256 (endK Tryd.prog 0 0 9)) .ret ⟨[(3, vI q), qd31, (9, .sl 0 1 0 x0), (13, .sl 1 3 0 x1), qd39], [(0, some ⟨9, .ls x2, true⟩), (1, some ⟨72, .lt (.pair (.pair (.int .i64) (.sl (.int .u64))) .str) x3, false⟩), (2, some ⟨74, .agg [vL x4, .ls x5, .lt (.pair (.pair (.int .i64) (.sl (.int .u64))) .str) x6], true⟩)], 3, none⟩ = lawPOF_s12 q x0 x1 x2 x3 x4 x5 x6 (fun a0 => some (vB a0, [])) := by kernel_rfl
noncomputable def lawPOF_s15 {R : Type} (w0 w1 v191 : Int) (x0 : Nat) (x1 w2 : List ((Int × List Int) × ByteArray)) (w3 x2 : Nat) (x3 : List ByteArray) (x4 : List Int) (x5 : List ByteArray) (x6 : List ((Int × List Int) × ByteArray)) (c0 : Nat → Int → (List ((Int × List Int) × ByteArray)) → Option R) (c1 : Nat → (List ((Int × List Int) × ByteArray)) → Option R) : Option R :=
  br (decide (w0 < w1))
    (bnd (divI .rem .i64 (IntKind.i64.wrap ((IntKind.i64.wrap (v191 + ((x0 : Nat) : Int))) - w0)) ((x0 : Nat) : Int)) fun v225 =>
    bnd (below v225 x0) fun j0 =>
    bnd (x1[(0 + j0)]?) fun e0 =>
    grd (Nat.beq w2.length w3) <|
    grd (okN (w3 + 1) 48) <|
    c0 ((w2 ++ [e0]).length) (IntKind.i64.wrap (w0 + 1)) (w2 ++ [e0]))
    (c1 w3 w2)
theorem lawPOF_s15_eq (fuel k : Nat) (K : Ex → St → Option Out) (w0 w1 v191 : Int) (x0 : Nat) (x1 w2 : List ((Int × List Int) × ByteArray)) (w3 x2 : Nat) (x3 : List ByteArray) (x4 : List Int) (x5 : List ByteArray) (x6 : List ((Int × List Int) × ByteArray)) : lpN qd40 (qd28 fuel) qd36 qd49 (k + 1) ⟨[(3, vI v191), qd31, (9, .sl 0 1 0 x2), (13, .sl 1 3 0 x0), qd39, (28, .sl 3 3 0 w3), (209, vI w1), (210, vI w0)], [(0, some ⟨9, .ls x3, true⟩), (1, some ⟨72, .lt (.pair (.pair (.int .i64) (.sl (.int .u64))) .str) x1, false⟩), (2, some ⟨74, .agg [vL x4, .ls x5, .lt (.pair (.pair (.int .i64) (.sl (.int .u64))) .str) x6], true⟩), (3, some ⟨72, .lt (.pair (.pair (.int .i64) (.sl (.int .u64))) .str) w2, true⟩)], 4, none⟩ K = lawPOF_s15 w0 w1 v191 x0 x1 w2 w3 x2 x3 x4 x5 x6 (fun a0 a1 a2 => lpN qd40 (qd28 fuel) qd36 qd49 k ⟨[(3, vI v191), qd31, (9, .sl 0 1 0 x2), (13, .sl 1 3 0 x0), qd39, (28, .sl 3 3 0 a0), (209, vI w1), (210, vI a1)], [(0, some ⟨9, .ls x3, true⟩), (1, some ⟨72, .lt (.pair (.pair (.int .i64) (.sl (.int .u64))) .str) x1, false⟩), (2, some ⟨74, .agg [vL x4, .ls x5, .lt (.pair (.pair (.int .i64) (.sl (.int .u64))) .str) x6], true⟩), (3, some ⟨72, .lt (.pair (.pair (.int .i64) (.sl (.int .u64))) .str) a2, true⟩)], 4, none⟩ K) (fun a3 a4 => K (.exit 8) ⟨[qd31, (9, .sl 0 1 0 x2), qd43, (28, .sl 2 3 0 a3)], [(0, some ⟨9, .ls x3, true⟩), (1, some ⟨74, .agg [vL x4, .ls x5, .lt (.pair (.pair (.int .i64) (.sl (.int .u64))) .str) x6], true⟩), (2, some ⟨72, .lt (.pair (.pair (.int .i64) (.sl (.int .u64))) .str) a4, true⟩)], 3, none⟩) := by kernel_rfl
noncomputable def lawPOF_l8 {R : Type} (fuel : Nat) (v191 : Int) (x0 x1 : Nat) (w0 : Int) (x2 : List ByteArray) (x3 : List ((Int × List Int) × ByteArray)) (x4 : List Int) (x5 : List ByteArray) (x6 : List ((Int × List Int) × ByteArray)) (k0 : Nat → (List ((Int × List Int) × ByteArray)) → Option R) : Nat → Nat → Int → (List ((Int × List Int) × ByteArray)) → Option R
  | 0, _, _, _ => none
  | k + 1, w1, w2, w3 =>
    (lawPOF_s15 w2 w0 v191 x1 x3 w3 w1 x0 x2 x4 x5 x6 (fun a0 a1 a2 => ( lawPOF_l8 fuel v191 x0 x1 w0 x2 x3 x4 x5 x6 k0 k a0 a1 a2 )) (fun a3 a4 => k0 a3 a4))
theorem lawPOF_l8_eq (fuel : Nat) (v191 : Int) (x0 x1 : Nat) (w0 : Int) (x2 : List ByteArray) (x3 : List ((Int × List Int) × ByteArray)) (x4 : List Int) (x5 : List ByteArray) (x6 : List ((Int × List Int) × ByteArray)) (K : Ex → St → Option Out) : ∀ (k w1 : Nat) (w2 : Int) (w3 : List ((Int × List Int) × ByteArray)), lpN qd40 (qd28 fuel) qd36 qd49 k ⟨[(3, vI v191), qd31, (9, .sl 0 1 0 x0), (13, .sl 1 3 0 x1), qd39, (28, .sl 3 3 0 w1), (209, vI w0), (210, vI w2)], [(0, some ⟨9, .ls x2, true⟩), (1, some ⟨72, .lt (.pair (.pair (.int .i64) (.sl (.int .u64))) .str) x3, false⟩), (2, some ⟨74, .agg [vL x4, .ls x5, .lt (.pair (.pair (.int .i64) (.sl (.int .u64))) .str) x6], true⟩), (3, some ⟨72, .lt (.pair (.pair (.int .i64) (.sl (.int .u64))) .str) w3, true⟩)], 4, none⟩ K = lawPOF_l8 fuel v191 x0 x1 w0 x2 x3 x4 x5 x6 (fun y0 y1 => K (.exit 8) ⟨[qd31, (9, .sl 0 1 0 x0), qd43, (28, .sl 2 3 0 y0)], [(0, some ⟨9, .ls x2, true⟩), (1, some ⟨74, .agg [vL x4, .ls x5, .lt (.pair (.pair (.int .i64) (.sl (.int .u64))) .str) x6], true⟩), (2, some ⟨72, .lt (.pair (.pair (.int .i64) (.sl (.int .u64))) .str) y1, true⟩)], 3, none⟩) k w1 w2 w3
  | 0, _, _, _ => rfl
  | k + 1, w1, w2, w3 => by
    unfold lawPOF_l8
    exact (lawPOF_s15_eq fuel k K w2 w0 v191 x1 x3 w3 w1 x0 x2 x4 x5 x6).trans (congr (congr (Eq.refl (lawPOF_s15 (R := Out) w2 w0 v191 x1 x3 w3 w1 x0 x2 x4 x5 x6)) (funext fun a0 => funext fun a1 => funext fun a2 => lawPOF_l8_eq fuel v191 x0 x1 w0 x2 x3 x4 x5 x6 K k a0 a1 a2)) (rfl))
noncomputable def lawPOF_s14 {R : Type} (w0 v191 : Int) (x0 : Nat) (x1 : List ((Int × List Int) × ByteArray)) (x2 : Nat) (x3 : List ByteArray) (x4 : List Int) (x5 : List ByteArray) (x6 : List ((Int × List Int) × ByteArray)) (c0 : Nat → Int → (List ((Int × List Int) × ByteArray)) → Option R) (c1 : Option R) : Option R :=
  br (decide (0 < w0))
    (bnd (divI .rem .i64 (IntKind.i64.wrap ((IntKind.i64.wrap (v191 + ((x0 : Nat) : Int))) - 0)) ((x0 : Nat) : Int)) fun v210 =>
    bnd (below v210 x0) fun j0 =>
    bnd (x1[(0 + j0)]?) fun e0 =>
    c0 1 1 ([e0]))
    (c1)
theorem lawPOF_s14_eq (fuel k : Nat) (K : Ex → St → Option Out) (w0 v191 : Int) (x0 : Nat) (x1 : List ((Int × List Int) × ByteArray)) (x2 : Nat) (x3 : List ByteArray) (x4 : List Int) (x5 : List ByteArray) (x6 : List ((Int × List Int) × ByteArray)) : lpN qd40 (qd28 fuel) qd36 qd49 (k + 1) ⟨[(3, vI v191), qd31, (9, .sl 0 1 0 x2), (13, .sl 1 3 0 x0), qd39, (28, vN), (209, vI w0), (210, vI 0)], [(0, some ⟨9, .ls x3, true⟩), (1, some ⟨72, .lt (.pair (.pair (.int .i64) (.sl (.int .u64))) .str) x1, false⟩), (2, some ⟨74, .agg [vL x4, .ls x5, .lt (.pair (.pair (.int .i64) (.sl (.int .u64))) .str) x6], true⟩)], 3, none⟩ K = lawPOF_s14 w0 v191 x0 x1 x2 x3 x4 x5 x6 (fun a0 a1 a2 => lpN qd40 (qd28 fuel) qd36 qd49 k ⟨[(3, vI v191), qd31, (9, .sl 0 1 0 x2), (13, .sl 1 3 0 x0), qd39, (28, .sl 3 3 0 a0), (209, vI w0), (210, vI a1)], [(0, some ⟨9, .ls x3, true⟩), (1, some ⟨72, .lt (.pair (.pair (.int .i64) (.sl (.int .u64))) .str) x1, false⟩), (2, some ⟨74, .agg [vL x4, .ls x5, .lt (.pair (.pair (.int .i64) (.sl (.int .u64))) .str) x6], true⟩), (3, some ⟨72, .lt (.pair (.pair (.int .i64) (.sl (.int .u64))) .str) a2, true⟩)], 4, none⟩ K) (K (.exit 8) ⟨[qd31, (9, .sl 0 1 0 x2), qd43, (28, vN)], [(0, some ⟨9, .ls x3, true⟩), (1, some ⟨74, .agg [vL x4, .ls x5, .lt (.pair (.pair (.int .i64) (.sl (.int .u64))) .str) x6], true⟩)], 2, none⟩) := by kernel_rfl
noncomputable def lawPOF_l7 {R : Type} (fuel : Nat) (v191 : Int) (x0 x1 : Nat) (x2 : List ByteArray) (x3 : List ((Int × List Int) × ByteArray)) (x4 : List Int) (x5 : List ByteArray) (x6 : List ((Int × List Int) × ByteArray)) (k0 : Nat → (List ((Int × List Int) × ByteArray)) → Option R) (k1 : Option R) : Nat → Int → Option R
  | 0, _ => none
  | k + 1, w0 =>
    (lawPOF_s14 w0 v191 x1 x3 x0 x2 x4 x5 x6 (fun a0 a1 a2 => (lawPOF_l8 fuel v191 x0 x1 w0 x2 x3 x4 x5 x6 (fun x7 x8 => k0 x7 x8) k a0 a1 a2)) (k1))
theorem lawPOF_l7_eq (fuel : Nat) (v191 : Int) (x0 x1 : Nat) (x2 : List ByteArray) (x3 : List ((Int × List Int) × ByteArray)) (x4 : List Int) (x5 : List ByteArray) (x6 : List ((Int × List Int) × ByteArray)) (K : Ex → St → Option Out) : ∀ (k : Nat) (w0 : Int), lpN qd40 (qd28 fuel) qd36 qd49 k ⟨[(3, vI v191), qd31, (9, .sl 0 1 0 x0), (13, .sl 1 3 0 x1), qd39, (28, vN), (209, vI w0), (210, vI 0)], [(0, some ⟨9, .ls x2, true⟩), (1, some ⟨72, .lt (.pair (.pair (.int .i64) (.sl (.int .u64))) .str) x3, false⟩), (2, some ⟨74, .agg [vL x4, .ls x5, .lt (.pair (.pair (.int .i64) (.sl (.int .u64))) .str) x6], true⟩)], 3, none⟩ K = lawPOF_l7 fuel v191 x0 x1 x2 x3 x4 x5 x6 (fun y0 y1 => K (.exit 8) ⟨[qd31, (9, .sl 0 1 0 x0), qd43, (28, .sl 2 3 0 y0)], [(0, some ⟨9, .ls x2, true⟩), (1, some ⟨74, .agg [vL x4, .ls x5, .lt (.pair (.pair (.int .i64) (.sl (.int .u64))) .str) x6], true⟩), (2, some ⟨72, .lt (.pair (.pair (.int .i64) (.sl (.int .u64))) .str) y1, true⟩)], 3, none⟩) (K (.exit 8) ⟨[qd31, (9, .sl 0 1 0 x0), qd43, (28, vN)], [(0, some ⟨9, .ls x2, true⟩), (1, some ⟨74, .agg [vL x4, .ls x5, .lt (.pair (.pair (.int .i64) (.sl (.int .u64))) .str) x6], true⟩)], 2, none⟩) k w0
  | 0, _ => rfl
  | k + 1, w0 => by
    unfold lawPOF_l7
    exact (lawPOF_s14_eq fuel k K w0 v191 x1 x3 x0 x2 x4 x5 x6).trans (congr (congr (Eq.refl (lawPOF_s14 (R := Out) w0 v191 x1 x3 x0 x2 x4 x5 x6)) (funext fun a0 => funext fun a1 => funext fun a2 => lawPOF_l8_eq fuel v191 x0 x1 w0 x2 x3 x4 x5 x6 K k a0 a1 a2)) (rfl))
noncomputable def lawPOF_s16 {R : Type} (x0 : List ((Int × List Int) × ByteArray)) (x1 x2 : Nat) (x3 : List Int) (x4 : List ((Int × List Int) × ByteArray)) (x5 x6 : List ByteArray) (c0 : Bool → Option R) : Option R :=
  grd (okE ((x0.drop 0).take x1) && decide (1 ≤ ((x0.drop 0).take x1).length) && decide (((x0.drop 0).take x1).length ≤ 1000)) <|
  br (((if mayB ((x2 : Nat) : Int) ((x0.drop 0).take x1) = true then 0 else 1) : Int) == 0)
    (grd (decide (List.length (α := Int) x3 ≤ 1000000)) <|
    br (eqS_li x3 (pAt ((x2 : Nat) : Int) ((x0.drop 0).take x1)))
      (c0 ((((x4.length : Nat) : Int) : Int) == (((pLeft ((x2 : Nat) : Int) ((x0.drop 0).take x1)).length : Nat) : Int)))
      (c0 false))
    (c0 false)
theorem lawPOF_s16_eq (fuel : Nat)  (x0 : List ((Int × List Int) × ByteArray)) (x1 x2 : Nat) (x3 : List Int) (x4 : List ((Int × List Int) × ByteArray)) (x5 x6 : List ByteArray) : (kont (qd28 fuel) qd30 qd50 256 (endK Tryd.prog 0 0 9)) (.exit 8) ⟨[qd31, (9, .sl 0 1 0 x2), qd43, (28, .sl 2 3 0 x1)], [(0, some ⟨9, .ls x5, true⟩), (1, some ⟨74, .agg [vL x3, .ls x6, .lt (.pair (.pair (.int .i64) (.sl (.int .u64))) .str) x4], true⟩), (2, some ⟨72, .lt (.pair (.pair (.int .i64) (.sl (.int .u64))) .str) x0, true⟩)], 3, none⟩ = lawPOF_s16 x0 x1 x2 x3 x4 x5 x6 (fun a0 => some (vB a0, [])) := by kernel_rfl
noncomputable def lawPOF_s17 {R : Type} (x0 : Nat) (x1 : List Int) (x2 : List ((Int × List Int) × ByteArray)) (x3 x4 : List ByteArray) (c0 : Bool → Option R) : Option R :=
  br (((if mayB ((x0 : Nat) : Int) [] = true then 0 else 1) : Int) == 0)
    (grd (decide (List.length (α := Int) x1 ≤ 1000000)) <|
    br (eqS_li x1 ([]))
      (c0 ((((x2.length : Nat) : Int) : Int) == 0))
      (c0 false))
    (c0 false)
theorem lawPOF_s17_eq (fuel : Nat)  (x0 : Nat) (x1 : List Int) (x2 : List ((Int × List Int) × ByteArray)) (x3 x4 : List ByteArray) : (kont (qd28 fuel) qd30 qd50 256 (endK Tryd.prog 0 0 9)) (.exit 8) ⟨[qd31, (9, .sl 0 1 0 x0), qd43, (28, vN)], [(0, some ⟨9, .ls x3, true⟩), (1, some ⟨74, .agg [vL x1, .ls x4, .lt (.pair (.pair (.int .i64) (.sl (.int .u64))) .str) x2], true⟩)], 2, none⟩ = lawPOF_s17 x0 x1 x2 x3 x4 (fun a0 => some (vB a0, [])) := by kernel_rfl
noncomputable def lawPOF_s13 {R : Type} (x0 : List ((Int × List Int) × ByteArray)) (x1 x2 : Nat) (x3 : List Int) (q : Int) (x4 : List ByteArray) (x5 : List ((Int × List Int) × ByteArray)) (x6 : List ByteArray) (c0 : Bool → Option R) (c1 : Int → Int → Option R) : Option R :=
  grd (okE x0 && decide (List.length (α := Eqn) x0 ≤ 1000)) <|
  br (((stpE ((x1 : Nat) : Int) x0) : Int) != 4)
    (c0 false)
    (br ((((x2 : Nat) : Int) : Int) == 0)
      (br ((((x3.length : Nat) : Int) : Int) == 0)
        (c0 ((((x0.length : Nat) : Int) : Int) == 0))
        (c0 false))
      (bnd (divI .rem .i64 q ((x2 : Nat) : Int)) fun v190 =>
      bnd (divI .rem .i64 (IntKind.i64.wrap (v190 + ((x2 : Nat) : Int))) ((x2 : Nat) : Int)) fun v191 =>
      c1 ((x2 : Nat) : Int) v191))
theorem lawPOF_s13_eq (fuel : Nat)  (x0 : List ((Int × List Int) × ByteArray)) (x1 x2 : Nat) (x3 : List Int) (q : Int) (x4 : List ByteArray) (x5 : List ((Int × List Int) × ByteArray)) (x6 : List ByteArray) : (kont (qd28 fuel) qd30 qd44 256 (endK Tryd.prog 0 0 9)) (.exit 6) ⟨[(3, vI q), qd31, (9, .sl 0 1 0 x1), (13, .sl 1 3 0 x2), qd39], [(0, some ⟨9, .ls x4, true⟩), (1, some ⟨72, .lt (.pair (.pair (.int .i64) (.sl (.int .u64))) .str) x5, false⟩), (2, some ⟨74, .agg [vL x3, .ls x6, .lt (.pair (.pair (.int .i64) (.sl (.int .u64))) .str) x0], true⟩)], 3, none⟩ = lawPOF_s13 x0 x1 x2 x3 q x4 x5 x6 (fun a0 => some (vB a0, [])) (fun a1 v191 => lpN qd40 (qd28 fuel) qd36 qd49 fuel ⟨[(3, vI v191), qd31, (9, .sl 0 1 0 x1), (13, .sl 1 3 0 x2), qd39, (28, vN), (209, vI a1), (210, vI 0)], [(0, some ⟨9, .ls x4, true⟩), (1, some ⟨72, .lt (.pair (.pair (.int .i64) (.sl (.int .u64))) .str) x5, false⟩), (2, some ⟨74, .agg [vL x3, .ls x6, .lt (.pair (.pair (.int .i64) (.sl (.int .u64))) .str) x0], true⟩)], 3, none⟩ (kont (qd28 fuel) qd30 qd50 256 (endK Tryd.prog 0 0 9))) := by kernel_rfl
noncomputable def lawPOF_s10 {R : Type} (x0 : List ((Int × List Int) × ByteArray)) (v2 q : Int) (x1 x2 : Nat) (x3 : List ByteArray) (x4 : List ((Int × List Int) × ByteArray)) (x5 : List Int) (x6 : List ByteArray) (c0 : Int → Int → Option R) : Option R :=
  c0 ((x0.length : Nat) : Int) 0
theorem lawPOF_s10_eq (fuel : Nat)  (x0 : List ((Int × List Int) × ByteArray)) (v2 q : Int) (x1 x2 : Nat) (x3 : List ByteArray) (x4 : List ((Int × List Int) × ByteArray)) (x5 : List Int) (x6 : List ByteArray) : (kont (qd28 fuel) qd30 qd45 256 (endK Tryd.prog 0 0 9)) (.exit 4) ⟨[(1, vI v2), (3, vI q), qd31, (9, .sl 0 1 0 x1), (13, .sl 1 3 0 x2), qd39], [(0, some ⟨9, .ls x3, true⟩), (1, some ⟨72, .lt (.pair (.pair (.int .i64) (.sl (.int .u64))) .str) x4, false⟩), (2, some ⟨74, .agg [vL x5, .ls x6, .lt (.pair (.pair (.int .i64) (.sl (.int .u64))) .str) x0], true⟩)], 3, none⟩ = lawPOF_s10 x0 v2 q x1 x2 x3 x4 x5 x6 (fun a0 a1 => lpN qd41 (qd28 fuel) qd35 qd47 fuel ⟨[(1, vI v2), (3, vI q), qd31, (9, .sl 0 1 0 x1), (13, .sl 1 3 0 x2), qd39, (152, .lt (.pair (.pair (.int .i64) (.sl (.int .u64))) .str) x0), (153, vI a0), (154, vI a1)], [(0, some ⟨9, .ls x3, true⟩), (1, some ⟨72, .lt (.pair (.pair (.int .i64) (.sl (.int .u64))) .str) x4, false⟩), (2, some ⟨74, .agg [vL x5, .ls x6, .lt (.pair (.pair (.int .i64) (.sl (.int .u64))) .str) x0], true⟩)], 3, none⟩ (kont (qd28 fuel) qd30 qd44 256 (endK Tryd.prog 0 0 9))) := by kernel_rfl
noncomputable def lawPOF_s7 {R : Type} (x0 : List ((Int × List Int) × ByteArray)) (x1 x2 : Nat) (v2 q : Int) (x3 : List ByteArray) (c0 : Bool → Option R) (c1 : List Int → Int → Int → List ByteArray → (List ((Int × List Int) × ByteArray)) → Option R) : Option R :=
  grd (okE ((x0.drop 0).take x1) && decide (1 ≤ ((x0.drop 0).take x1).length) && decide (((x0.drop 0).take x1).length ≤ 1000)) <|
  br ((((x2 : Nat) : Int) : Int) == 0)
    (c0 (((if mayB ((x2 : Nat) : Int) ((x0.drop 0).take x1) = true then 0 else 1) : Int) == 1))
    (br (((if mayB ((x2 : Nat) : Int) ((x0.drop 0).take x1) = true then 0 else 1) : Int) != 0)
      (c0 false)
      (br (((((pAt ((x2 : Nat) : Int) ((x0.drop 0).take x1)).length : Nat) : Int) : Int) != (((pTold ((x2 : Nat) : Int) ((x0.drop 0).take x1)).length : Nat) : Int))
        (c0 false)
        (c1 (pAt ((x2 : Nat) : Int) ((x0.drop 0).take x1)) (((pAt ((x2 : Nat) : Int) ((x0.drop 0).take x1)).length : Nat) : Int) 0 (pTold ((x2 : Nat) : Int) ((x0.drop 0).take x1)) (pLeft ((x2 : Nat) : Int) ((x0.drop 0).take x1)))))
theorem lawPOF_s7_eq (fuel : Nat)  (x0 : List ((Int × List Int) × ByteArray)) (x1 x2 : Nat) (v2 q : Int) (x3 : List ByteArray) : (kont (qd28 fuel) qd30 qd51 256 (endK Tryd.prog 0 0 9)) (.exit 2) ⟨[(1, vI v2), (3, vI q), qd31, (9, .sl 0 1 0 x2), (13, .sl 1 3 0 x1)], [(0, some ⟨9, .ls x3, true⟩), (1, some ⟨72, .lt (.pair (.pair (.int .i64) (.sl (.int .u64))) .str) x0, true⟩)], 2, none⟩ = lawPOF_s7 x0 x1 x2 v2 q x3 (fun a0 => some (vB a0, [])) (fun a1 a2 a3 a4 a5 => lpN qd42 (qd28 fuel) qd34 qd46 fuel ⟨[(1, vI v2), (3, vI q), qd31, (9, .sl 0 1 0 x2), (13, .sl 1 3 0 x1), qd39, (123, vL a1), (124, vI a2), (125, vI a3)], [(0, some ⟨9, .ls x3, true⟩), (1, some ⟨72, .lt (.pair (.pair (.int .i64) (.sl (.int .u64))) .str) x0, false⟩), (2, some ⟨74, .agg [vL a1, .ls a4, .lt (.pair (.pair (.int .i64) (.sl (.int .u64))) .str) a5], true⟩)], 3, none⟩ (kont (qd28 fuel) qd30 qd45 256 (endK Tryd.prog 0 0 9))) := by kernel_rfl
noncomputable def lawPOF_s19 {R : Type} (v2 q : Int) (x0 : Nat) (x1 : List ByteArray) (c0 : Option R) : Option R :=
  c0
theorem lawPOF_s19_eq (fuel k : Nat) (K : Ex → St → Option Out) (v2 q : Int) (x0 : Nat) (x1 : List ByteArray) : lpN qd42 (qd28 fuel) qd34 qd46 (k + 1) ⟨[(1, vI v2), (3, vI q), qd31, (9, .sl 0 1 0 x0), (13, vN), qd43, (123, vN), (124, vI 0), (125, vI 0)], [(0, some ⟨9, .ls x1, true⟩), qd37], 2, none⟩ K = lawPOF_s19 v2 q x0 x1 (K (.exit 4) ⟨[(1, vI v2), (3, vI q), qd31, (9, .sl 0 1 0 x0), (13, vN), qd43], [(0, some ⟨9, .ls x1, true⟩), qd37], 2, none⟩) := by kernel_rfl
noncomputable def lawPOF_l9 {R : Type} (fuel : Nat) (v2 q : Int) (x0 : Nat) (x1 : List ByteArray) (k0 : Option R) : Nat → Option R
  | 0 => none
  | k + 1 =>
    (lawPOF_s19 v2 q x0 x1 (k0))
theorem lawPOF_l9_eq (fuel : Nat) (v2 q : Int) (x0 : Nat) (x1 : List ByteArray) (K : Ex → St → Option Out) : ∀ (k : Nat) , lpN qd42 (qd28 fuel) qd34 qd46 k ⟨[(1, vI v2), (3, vI q), qd31, (9, .sl 0 1 0 x0), (13, vN), qd43, (123, vN), (124, vI 0), (125, vI 0)], [(0, some ⟨9, .ls x1, true⟩), qd37], 2, none⟩ K = lawPOF_l9 fuel v2 q x0 x1 (K (.exit 4) ⟨[(1, vI v2), (3, vI q), qd31, (9, .sl 0 1 0 x0), (13, vN), qd43], [(0, some ⟨9, .ls x1, true⟩), qd37], 2, none⟩) k 
  | 0 => rfl
  | k + 1 => by
    unfold lawPOF_l9
    exact (lawPOF_s19_eq fuel k K v2 q x0 x1)
noncomputable def lawPOF_s21 {R : Type} (v2 q : Int) (x0 : Nat) (x1 : List ByteArray) (c0 : Option R) : Option R :=
  c0
theorem lawPOF_s21_eq (fuel k : Nat) (K : Ex → St → Option Out) (v2 q : Int) (x0 : Nat) (x1 : List ByteArray) : lpN qd41 (qd28 fuel) qd35 qd47 (k + 1) ⟨[(1, vI v2), (3, vI q), qd31, (9, .sl 0 1 0 x0), (13, vN), qd43, (152, vN), (153, vI 0), (154, vI 0)], [(0, some ⟨9, .ls x1, true⟩), qd37], 2, none⟩ K = lawPOF_s21 v2 q x0 x1 (K (.exit 6) ⟨[(3, vI q), qd31, (9, .sl 0 1 0 x0), (13, vN), qd43], [(0, some ⟨9, .ls x1, true⟩), qd37], 2, none⟩) := by kernel_rfl
noncomputable def lawPOF_l10 {R : Type} (fuel : Nat) (v2 q : Int) (x0 : Nat) (x1 : List ByteArray) (k0 : Option R) : Nat → Option R
  | 0 => none
  | k + 1 =>
    (lawPOF_s21 v2 q x0 x1 (k0))
theorem lawPOF_l10_eq (fuel : Nat) (v2 q : Int) (x0 : Nat) (x1 : List ByteArray) (K : Ex → St → Option Out) : ∀ (k : Nat) , lpN qd41 (qd28 fuel) qd35 qd47 k ⟨[(1, vI v2), (3, vI q), qd31, (9, .sl 0 1 0 x0), (13, vN), qd43, (152, vN), (153, vI 0), (154, vI 0)], [(0, some ⟨9, .ls x1, true⟩), qd37], 2, none⟩ K = lawPOF_l10 fuel v2 q x0 x1 (K (.exit 6) ⟨[(3, vI q), qd31, (9, .sl 0 1 0 x0), (13, vN), qd43], [(0, some ⟨9, .ls x1, true⟩), qd37], 2, none⟩) k 
  | 0 => rfl
  | k + 1 => by
    unfold lawPOF_l10
    exact (lawPOF_s21_eq fuel k K v2 q x0 x1)
noncomputable def lawPOF_s22 {R : Type} (x0 : Nat) (q : Int) (x1 : List ByteArray) (c0 : Bool → Option R) : Option R :=
  grd (okE ([]) && decide (List.length (α := Eqn) ([]) ≤ 1000)) <|
  br (((stpE ((x0 : Nat) : Int) ([])) : Int) != 4)
    (c0 false)
    (c0 true)
theorem lawPOF_s22_eq (fuel : Nat)  (x0 : Nat) (q : Int) (x1 : List ByteArray) : (kont (qd28 fuel) qd30 qd44 256 (endK Tryd.prog 0 0 9)) (.exit 6) ⟨[(3, vI q), qd31, (9, .sl 0 1 0 x0), (13, vN), qd43], [(0, some ⟨9, .ls x1, true⟩), qd37], 2, none⟩ = lawPOF_s22 x0 q x1 (fun a0 => some (vB a0, [])) := by kernel_rfl
noncomputable def lawPOF_s20 {R : Type} (v2 q : Int) (x0 : Nat) (x1 : List ByteArray) (c0 : Option R) : Option R :=
  c0
theorem lawPOF_s20_eq (fuel : Nat)  (v2 q : Int) (x0 : Nat) (x1 : List ByteArray) : (kont (qd28 fuel) qd30 qd45 256 (endK Tryd.prog 0 0 9)) (.exit 4) ⟨[(1, vI v2), (3, vI q), qd31, (9, .sl 0 1 0 x0), (13, vN), qd43], [(0, some ⟨9, .ls x1, true⟩), qd37], 2, none⟩ = lawPOF_s20 v2 q x0 x1 (lpN qd41 (qd28 fuel) qd35 qd47 fuel ⟨[(1, vI v2), (3, vI q), qd31, (9, .sl 0 1 0 x0), (13, vN), qd43, (152, vN), (153, vI 0), (154, vI 0)], [(0, some ⟨9, .ls x1, true⟩), qd37], 2, none⟩ (kont (qd28 fuel) qd30 qd44 256 (endK Tryd.prog 0 0 9))) := by kernel_rfl
noncomputable def lawPOF_s18 {R : Type} (x0 : Nat) (v2 q : Int) (x1 : List ByteArray) (c0 : Bool → Option R) (c1 : Option R) : Option R :=
  br ((((x0 : Nat) : Int) : Int) == 0)
    (c0 (((if mayB ((x0 : Nat) : Int) [] = true then 0 else 1) : Int) == 1))
    (br (((if mayB ((x0 : Nat) : Int) [] = true then 0 else 1) : Int) != 0)
      (c0 false)
      (c1))
theorem lawPOF_s18_eq (fuel : Nat)  (x0 : Nat) (v2 q : Int) (x1 : List ByteArray) : (kont (qd28 fuel) qd30 qd51 256 (endK Tryd.prog 0 0 9)) (.exit 2) ⟨[(1, vI v2), (3, vI q), qd31, (9, .sl 0 1 0 x0), (13, vN)], [(0, some ⟨9, .ls x1, true⟩)], 1, none⟩ = lawPOF_s18 x0 v2 q x1 (fun a0 => some (vB a0, [])) (lpN qd42 (qd28 fuel) qd34 qd46 fuel ⟨[(1, vI v2), (3, vI q), qd31, (9, .sl 0 1 0 x0), (13, vN), qd43, (123, vN), (124, vI 0), (125, vI 0)], [(0, some ⟨9, .ls x1, true⟩), qd37], 2, none⟩ (kont (qd28 fuel) qd30 qd45 256 (endK Tryd.prog 0 0 9))) := by kernel_rfl
noncomputable def lawPOF_s4 {R : Type} (m : List (Int × List Int)) (v2 q : Int) (x0 : Nat) (x1 : List ByteArray) (c0 : (List (Int × List Int)) → Int → Int → Option R) : Option R :=
  bnd (upTo (min ((m.length : Nat) : Int) 40) m.length) fun j0 =>
  c0 ((m.drop 0).take (j0 - 0)) ((((m.drop 0).take (j0 - 0)).length : Nat) : Int) 0
theorem lawPOF_s4_eq (fuel : Nat)  (m : List (Int × List Int)) (v2 q : Int) (x0 : Nat) (x1 : List ByteArray) : (kont (qd28 fuel) qd30 [1, 1, 1, 0, 1, 0] 256 (endK Tryd.prog 0 0 9)) (.exit 0) ⟨[(0, vR m), (1, vI v2), (3, vI q), qd31, (9, .sl 0 1 0 x0)], [(0, some ⟨9, .ls x1, true⟩)], 1, none⟩ = lawPOF_s4 m v2 q x0 x1 (fun a0 a1 a2 => lpN qd32 (qd28 fuel) qd29 qd38 fuel ⟨[(1, vI v2), (3, vI q), qd31, (9, .sl 0 1 0 x0), (13, vN), (62, vR a0), (63, vI a1), (64, vI a2)], [(0, some ⟨9, .ls x1, true⟩)], 1, none⟩ (kont (qd28 fuel) qd30 qd51 256 (endK Tryd.prog 0 0 9))) := by kernel_rfl
noncomputable def lawPOF_s25 {R : Type} (w0 w1 : Int) (w2 : List (Int × List Int)) (v2 : Int) (w3 : List ((Int × List Int) × ByteArray)) (w4 : Nat) (q : Int) (c0 : Nat → Int → (List ((Int × List Int) × ByteArray)) → Option R) (c1 : Nat → Int → (List ((Int × List Int) × ByteArray)) → Option R) (c2 : Nat → (List ((Int × List Int) × ByteArray)) → Option R) : Option R :=
  br (decide (w0 < w1))
    (bnd (ix w2 w0) fun e0 =>
    bnd (upTo (min ((e0.2.length : Nat) : Int) 3) e0.2.length) fun j0 =>
    grd (okW ((e0.2.drop 0).take (j0 - 0))) <|
    br (((pickE v2 ([]) e0.1 ((e0.2.drop 0).take (j0 - 0))) : Int) == 0)
      (grd (Nat.beq w3.length w4) <|
      grd (okN (w4 + 1) 48) <|
      c0 ((w3 ++ [((e0.1, ((e0.2.drop 0).take (j0 - 0))), (pickT v2 ([]) e0.1 ((e0.2.drop 0).take (j0 - 0))))]).length) (IntKind.i64.wrap (w0 + 1)) (w3 ++ [((e0.1, ((e0.2.drop 0).take (j0 - 0))), (pickT v2 ([]) e0.1 ((e0.2.drop 0).take (j0 - 0))))]))
      (c1 w4 (IntKind.i64.wrap (w0 + 1)) w3))
    (c2 w4 w3)
theorem lawPOF_s25_eq (fuel k : Nat) (K : Ex → St → Option Out) (w0 w1 : Int) (w2 : List (Int × List Int)) (v2 : Int) (w3 : List ((Int × List Int) × ByteArray)) (w4 : Nat) (q : Int) : lpN qd32 (qd28 fuel) qd29 qd38 (k + 1) ⟨[(1, vI v2), (3, vI q), qd31, (9, vN), (13, .sl 0 3 0 w4), (62, vR w2), (63, vI w1), (64, vI w0)], [(0, some ⟨72, .lt (.pair (.pair (.int .i64) (.sl (.int .u64))) .str) w3, true⟩)], 1, none⟩ K = lawPOF_s25 w0 w1 w2 v2 w3 w4 q (fun a0 a1 a2 => lpN qd32 (qd28 fuel) qd29 qd38 k ⟨[(1, vI v2), (3, vI q), qd31, (9, vN), (13, .sl 0 3 0 a0), (62, vR w2), (63, vI w1), (64, vI a1)], [(0, some ⟨72, .lt (.pair (.pair (.int .i64) (.sl (.int .u64))) .str) a2, true⟩)], 1, none⟩ K) (fun a3 a4 a5 => lpN qd32 (qd28 fuel) qd29 qd38 k ⟨[(1, vI v2), (3, vI q), qd31, (9, vN), (13, .sl 0 3 0 a3), (62, vR w2), (63, vI w1), (64, vI a4)], [(0, some ⟨72, .lt (.pair (.pair (.int .i64) (.sl (.int .u64))) .str) a5, true⟩)], 1, none⟩ K) (fun a6 a7 => K (.exit 2) ⟨[(1, vI v2), (3, vI q), qd31, (9, vN), (13, .sl 0 3 0 a6)], [(0, some ⟨72, .lt (.pair (.pair (.int .i64) (.sl (.int .u64))) .str) a7, true⟩)], 1, none⟩) := by kernel_rfl
noncomputable def lawPOF_l12 {R : Type} (fuel : Nat) (v2 q : Int) (w0 : List (Int × List Int)) (w1 : Int) (k0 : Nat → (List ((Int × List Int) × ByteArray)) → Option R) : Nat → Nat → Int → (List ((Int × List Int) × ByteArray)) → Option R
  | 0, _, _, _ => none
  | k + 1, w2, w3, w4 =>
    (lawPOF_s25 w3 w1 w0 v2 w4 w2 q (fun a0 a1 a2 => ( lawPOF_l12 fuel v2 q w0 w1 k0 k a0 a1 a2 )) (fun a3 a4 a5 => ( lawPOF_l12 fuel v2 q w0 w1 k0 k a3 a4 a5 )) (fun a6 a7 => k0 a6 a7))
theorem lawPOF_l12_eq (fuel : Nat) (v2 q : Int) (w0 : List (Int × List Int)) (w1 : Int) (K : Ex → St → Option Out) : ∀ (k w2 : Nat) (w3 : Int) (w4 : List ((Int × List Int) × ByteArray)), lpN qd32 (qd28 fuel) qd29 qd38 k ⟨[(1, vI v2), (3, vI q), qd31, (9, vN), (13, .sl 0 3 0 w2), (62, vR w0), (63, vI w1), (64, vI w3)], [(0, some ⟨72, .lt (.pair (.pair (.int .i64) (.sl (.int .u64))) .str) w4, true⟩)], 1, none⟩ K = lawPOF_l12 fuel v2 q w0 w1 (fun y0 y1 => K (.exit 2) ⟨[(1, vI v2), (3, vI q), qd31, (9, vN), (13, .sl 0 3 0 y0)], [(0, some ⟨72, .lt (.pair (.pair (.int .i64) (.sl (.int .u64))) .str) y1, true⟩)], 1, none⟩) k w2 w3 w4
  | 0, _, _, _ => rfl
  | k + 1, w2, w3, w4 => by
    unfold lawPOF_l12
    exact (lawPOF_s25_eq fuel k K w3 w1 w0 v2 w4 w2 q).trans (congr (congr (congr (Eq.refl (lawPOF_s25 (R := Out) w3 w1 w0 v2 w4 w2 q)) (funext fun a0 => funext fun a1 => funext fun a2 => lawPOF_l12_eq fuel v2 q w0 w1 K k a0 a1 a2)) (funext fun a3 => funext fun a4 => funext fun a5 => lawPOF_l12_eq fuel v2 q w0 w1 K k a3 a4 a5)) (rfl))
noncomputable def lawPOF_s24 {R : Type} (w0 w1 : Int) (w2 : List (Int × List Int)) (v2 q : Int) (c0 : Nat → Int → (List ((Int × List Int) × ByteArray)) → Option R) (c1 : (List (Int × List Int)) → Int → Int → Option R) (c2 : Option R) : Option R :=
  br (decide (w0 < w1))
    (bnd (ix w2 w0) fun e0 =>
    bnd (upTo (min ((e0.2.length : Nat) : Int) 3) e0.2.length) fun j0 =>
    grd (okW ((e0.2.drop 0).take (j0 - 0))) <|
    br (((pickE v2 ([]) e0.1 ((e0.2.drop 0).take (j0 - 0))) : Int) == 0)
      (c0 1 (IntKind.i64.wrap (w0 + 1)) ([((e0.1, ((e0.2.drop 0).take (j0 - 0))), (pickT v2 ([]) e0.1 ((e0.2.drop 0).take (j0 - 0))))]))
      (c1 w2 w1 (IntKind.i64.wrap (w0 + 1))))
    (c2)
theorem lawPOF_s24_eq (fuel k : Nat) (K : Ex → St → Option Out) (w0 w1 : Int) (w2 : List (Int × List Int)) (v2 q : Int) : lpN qd32 (qd28 fuel) qd29 qd38 (k + 1) ⟨[(1, vI v2), (3, vI q), qd31, (9, vN), (13, vN), (62, vR w2), (63, vI w1), (64, vI w0)], [], 0, none⟩ K = lawPOF_s24 w0 w1 w2 v2 q (fun a0 a1 a2 => lpN qd32 (qd28 fuel) qd29 qd38 k ⟨[(1, vI v2), (3, vI q), qd31, (9, vN), (13, .sl 0 3 0 a0), (62, vR w2), (63, vI w1), (64, vI a1)], [(0, some ⟨72, .lt (.pair (.pair (.int .i64) (.sl (.int .u64))) .str) a2, true⟩)], 1, none⟩ K) (fun a3 a4 a5 => lpN qd32 (qd28 fuel) qd29 qd38 k ⟨[(1, vI v2), (3, vI q), qd31, (9, vN), (13, vN), (62, vR a3), (63, vI a4), (64, vI a5)], [], 0, none⟩ K) (K (.exit 2) ⟨[(1, vI v2), (3, vI q), qd31, (9, vN), (13, vN)], [], 0, none⟩) := by kernel_rfl
noncomputable def lawPOF_l11 {R : Type} (fuel : Nat) (v2 q : Int) (k0 : Nat → (List ((Int × List Int) × ByteArray)) → Option R) (k1 : Option R) : Nat → (List (Int × List Int)) → Int → Int → Option R
  | 0, _, _, _ => none
  | k + 1, w0, w1, w2 =>
    (lawPOF_s24 w2 w1 w0 v2 q (fun a0 a1 a2 => (lawPOF_l12 fuel v2 q w0 w1 (fun x0 x1 => k0 x0 x1) k a0 a1 a2)) (fun a3 a4 a5 => ( lawPOF_l11 fuel v2 q k0 k1 k a3 a4 a5 )) (k1))
theorem lawPOF_l11_eq (fuel : Nat) (v2 q : Int) (K : Ex → St → Option Out) : ∀ (k : Nat) (w0 : List (Int × List Int)) (w1 w2 : Int), lpN qd32 (qd28 fuel) qd29 qd38 k ⟨[(1, vI v2), (3, vI q), qd31, (9, vN), (13, vN), (62, vR w0), (63, vI w1), (64, vI w2)], [], 0, none⟩ K = lawPOF_l11 fuel v2 q (fun y0 y1 => K (.exit 2) ⟨[(1, vI v2), (3, vI q), qd31, (9, vN), (13, .sl 0 3 0 y0)], [(0, some ⟨72, .lt (.pair (.pair (.int .i64) (.sl (.int .u64))) .str) y1, true⟩)], 1, none⟩) (K (.exit 2) ⟨[(1, vI v2), (3, vI q), qd31, (9, vN), (13, vN)], [], 0, none⟩) k w0 w1 w2
  | 0, _, _, _ => rfl
  | k + 1, w0, w1, w2 => by
    unfold lawPOF_l11
    exact (lawPOF_s24_eq fuel k K w2 w1 w0 v2 q).trans (congr (congr (congr (Eq.refl (lawPOF_s24 (R := Out) w2 w1 w0 v2 q)) (funext fun a0 => funext fun a1 => funext fun a2 => lawPOF_l12_eq fuel v2 q w0 w1 K k a0 a1 a2)) (funext fun a3 => funext fun a4 => funext fun a5 => lawPOF_l11_eq fuel v2 q K k a3 a4 a5)) (rfl))
noncomputable def lawPOF_s26 {R : Type} (x0 : List ((Int × List Int) × ByteArray)) (x1 : Nat) (v2 q : Int) (c0 : Bool → Option R) : Option R :=
  grd (okE ((x0.drop 0).take x1) && decide (1 ≤ ((x0.drop 0).take x1).length) && decide (((x0.drop 0).take x1).length ≤ 1000)) <|
  c0 (((if mayB 0 ((x0.drop 0).take x1) = true then 0 else 1) : Int) == 1)
theorem lawPOF_s26_eq (fuel : Nat)  (x0 : List ((Int × List Int) × ByteArray)) (x1 : Nat) (v2 q : Int) : (kont (qd28 fuel) qd30 qd51 256 (endK Tryd.prog 0 0 9)) (.exit 2) ⟨[(1, vI v2), (3, vI q), qd31, (9, vN), (13, .sl 0 3 0 x1)], [(0, some ⟨72, .lt (.pair (.pair (.int .i64) (.sl (.int .u64))) .str) x0, true⟩)], 1, none⟩ = lawPOF_s26 x0 x1 v2 q (fun a0 => some (vB a0, [])) := by kernel_rfl
noncomputable def lawPOF_s27 {R : Type} (v2 q : Int) (c0 : Bool → Option R) : Option R :=
  c0 (((if mayB 0 [] = true then 0 else 1) : Int) == 1)
theorem lawPOF_s27_eq (fuel : Nat)  (v2 q : Int) : (kont (qd28 fuel) qd30 qd51 256 (endK Tryd.prog 0 0 9)) (.exit 2) ⟨[(1, vI v2), (3, vI q), qd31, (9, vN), (13, vN)], [], 0, none⟩ = lawPOF_s27 v2 q (fun a0 => some (vB a0, [])) := by kernel_rfl
noncomputable def lawPOF_s23 {R : Type} (m : List (Int × List Int)) (v2 q : Int) (c0 : (List (Int × List Int)) → Int → Int → Option R) : Option R :=
  bnd (upTo (min ((m.length : Nat) : Int) 40) m.length) fun j0 =>
  c0 ((m.drop 0).take (j0 - 0)) ((((m.drop 0).take (j0 - 0)).length : Nat) : Int) 0
theorem lawPOF_s23_eq (fuel : Nat)  (m : List (Int × List Int)) (v2 q : Int) : (kont (qd28 fuel) qd30 [1, 1, 1, 0, 1, 0] 256 (endK Tryd.prog 0 0 9)) (.exit 0) ⟨[(0, vR m), (1, vI v2), (3, vI q), qd31, (9, vN)], [], 0, none⟩ = lawPOF_s23 m v2 q (fun a0 a1 a2 => lpN qd32 (qd28 fuel) qd29 qd38 fuel ⟨[(1, vI v2), (3, vI q), qd31, (9, vN), (13, vN), (62, vR a0), (63, vI a1), (64, vI a2)], [], 0, none⟩ (kont (qd28 fuel) qd30 qd51 256 (endK Tryd.prog 0 0 9))) := by kernel_rfl
noncomputable def lawPOF_s1 {R : Type} (n : Int) (x : List ByteArray) (m : List (Int × List Int)) (q : Int) (c0 : List ByteArray → Int → Int → Option R) : Option R :=
  bnd (divI .rem .i64 n 65) fun v1 =>
  bnd (divI .rem .i64 (IntKind.i64.wrap (v1 + 65)) 65) fun v2 =>
  bnd (upTo (min ((x.length : Nat) : Int) 64) x.length) fun j3 =>
  c0 ((x.drop 0).take (j3 - 0)) ((((x.drop 0).take (j3 - 0)).length : Nat) : Int) v2
theorem lawPOF_s1_eq (fuel : Nat)  (n : Int) (x : List ByteArray) (m : List (Int × List Int)) (q : Int) : callN Tryd.prog mode16 T_Step fuel 9 [vR m, vI n, .ls x, vI q] [] = lawPOF_s1 n x m q (fun a0 a1 v2 => lpN qd48 (qd28 fuel) qd33 qd52 fuel ⟨[(0, vR m), (1, vI v2), (3, vI q), qd31, (9, vN), (41, .ls a0), (42, vI a1), (43, vI 0)], [], 0, none⟩ (kont (qd28 fuel) qd30 [1, 1, 1, 0, 1, 0] 256 (endK Tryd.prog 0 0 9))) := by kernel_rfl
noncomputable def lawPOF {R : Type} (fuel : Nat) (m : List (Int × List Int)) (n : Int) (x : List ByteArray) (q : Int) (r0 : Bool → Option R) : Option R :=
  (lawPOF_s1 n x m q (fun a0 a1 v2 => (lawPOF_l1 fuel m v2 q (fun x0 x1 => (lawPOF_s4 m v2 q x0 x1 (fun a2 a3 a4 => (lawPOF_l3 fuel v2 q x0 x1 (fun x2 x3 => (lawPOF_s7 x3 x2 x0 v2 q x1 (fun a5 => r0 a5) (fun a6 a7 a8 a9 a10 => (lawPOF_l5 fuel v2 q x0 x2 x1 x3 (fun x4 x5 x6 => (lawPOF_s9 v2 q x0 x2 x1 x3 x4 x5 x6 (fun a11 => r0 a11))) (fun x7 x8 x9 => (lawPOF_s10 x9 v2 q x0 x2 x1 x3 x7 x8 (fun a12 a13 => (lawPOF_l6 fuel v2 q x0 x2 x9 x1 x3 x7 x8 ((lawPOF_s12 q x0 x2 x1 x3 x7 x8 x9 (fun a14 => r0 a14))) ((lawPOF_s13 x9 x0 x2 x7 q x1 x3 x8 (fun a15 => r0 a15) (fun a16 v191 => (lawPOF_l7 fuel v191 x0 x2 x1 x3 x7 x8 x9 (fun x10 x11 => (lawPOF_s16 x11 x10 x0 x7 x9 x1 x8 (fun a17 => r0 a17))) ((lawPOF_s17 x0 x7 x9 x1 x8 (fun a18 => r0 a18))) fuel a16)))) fuel a12 a13)))) fuel a6 a7 a8 a9 a10)))) ((lawPOF_s18 x0 v2 q x1 (fun a19 => r0 a19) ((lawPOF_l9 fuel v2 q x0 x1 ((lawPOF_s20 v2 q x0 x1 ((lawPOF_l10 fuel v2 q x0 x1 ((lawPOF_s22 x0 q x1 (fun a20 => r0 a20))) fuel)))) fuel)))) fuel a2 a3 a4)))) ((lawPOF_s23 m v2 q (fun a21 a22 a23 => (lawPOF_l11 fuel v2 q (fun x12 x13 => (lawPOF_s26 x13 x12 v2 q (fun a24 => r0 a24))) ((lawPOF_s27 v2 q (fun a25 => r0 a25))) fuel a21 a22 a23)))) fuel a0 a1)))
theorem lawPOF_eq (fuel : Nat) (m : List (Int × List Int)) (n : Int) (x : List ByteArray) (q : Int) : callN Tryd.prog mode16 T_Step fuel 9 [.lt (.pair (.int .i64) (.sl (.int .u64))) m, .s (.int .i64 n), .ls x, .s (.int .i64 q)] [] = lawPOF fuel m n x q (fun z0 => some (.s (.bool z0), [])) := by
  unfold lawPOF
  exact (lawPOF_s1_eq fuel  n x m q).trans (congr (Eq.refl (lawPOF_s1 (R := Out) n x m q)) (funext fun a0 => funext fun a1 => funext fun v2 => (lawPOF_l1_eq fuel m v2 q (kont (qd28 fuel) qd30 [1, 1, 1, 0, 1, 0] 256 (endK Tryd.prog 0 0 9)) fuel a0 a1).trans (congrFun (congrFun (congrFun (congr (congr (Eq.refl (lawPOF_l1 (R := Out) fuel m v2 q)) (funext fun x0 => funext fun x1 => (lawPOF_s4_eq fuel  m v2 q x0 x1).trans (congr (Eq.refl (lawPOF_s4 (R := Out) m v2 q x0 x1)) (funext fun a2 => funext fun a3 => funext fun a4 => (lawPOF_l3_eq fuel v2 q x0 x1 (kont (qd28 fuel) qd30 qd51 256 (endK Tryd.prog 0 0 9)) fuel a2 a3 a4).trans (congrFun (congrFun (congrFun (congrFun (congr (congr (Eq.refl (lawPOF_l3 (R := Out) fuel v2 q x0 x1)) (funext fun x2 => funext fun x3 => (lawPOF_s7_eq fuel  x3 x2 x0 v2 q x1).trans (congr (congr (Eq.refl (lawPOF_s7 (R := Out) x3 x2 x0 v2 q x1)) (rfl)) (funext fun a5 => funext fun a6 => funext fun a7 => funext fun a8 => funext fun a9 => (lawPOF_l5_eq fuel v2 q x0 x2 x1 x3 (kont (qd28 fuel) qd30 qd45 256 (endK Tryd.prog 0 0 9)) fuel a5 a6 a7 a8 a9).trans (congrFun (congrFun (congrFun (congrFun (congrFun (congrFun (congr (congr (Eq.refl (lawPOF_l5 (R := Out) fuel v2 q x0 x2 x1 x3)) (funext fun x4 => funext fun x5 => funext fun x6 => (lawPOF_s9_eq fuel  v2 q x0 x2 x1 x3 x4 x5 x6))) (funext fun x7 => funext fun x8 => funext fun x9 => (lawPOF_s10_eq fuel  x9 v2 q x0 x2 x1 x3 x7 x8).trans (congr (Eq.refl (lawPOF_s10 (R := Out) x9 v2 q x0 x2 x1 x3 x7 x8)) (funext fun a10 => funext fun a11 => (lawPOF_l6_eq fuel v2 q x0 x2 x9 x1 x3 x7 x8 (kont (qd28 fuel) qd30 qd44 256 (endK Tryd.prog 0 0 9)) fuel a10 a11).trans (congrFun (congrFun (congrFun (congr (congr (Eq.refl (lawPOF_l6 (R := Out) fuel v2 q x0 x2 x9 x1 x3 x7 x8)) ((lawPOF_s12_eq fuel  q x0 x2 x1 x3 x7 x8 x9))) ((lawPOF_s13_eq fuel  x9 x0 x2 x7 q x1 x3 x8).trans (congr (congr (Eq.refl (lawPOF_s13 (R := Out) x9 x0 x2 x7 q x1 x3 x8)) (rfl)) (funext fun a12 => funext fun v191 => (lawPOF_l7_eq fuel v191 x0 x2 x1 x3 x7 x8 x9 (kont (qd28 fuel) qd30 qd50 256 (endK Tryd.prog 0 0 9)) fuel a12).trans (congrFun (congrFun (congr (congr (Eq.refl (lawPOF_l7 (R := Out) fuel v191 x0 x2 x1 x3 x7 x8 x9)) (funext fun x10 => funext fun x11 => (lawPOF_s16_eq fuel  x11 x10 x0 x7 x9 x1 x8))) ((lawPOF_s17_eq fuel  x0 x7 x9 x1 x8))) fuel) a12))))) fuel) a10) a11))))) fuel) a5) a6) a7) a8) a9))))) ((lawPOF_s18_eq fuel  x0 v2 q x1).trans (congr (congr (Eq.refl (lawPOF_s18 (R := Out) x0 v2 q x1)) (rfl)) ((lawPOF_l9_eq fuel v2 q x0 x1 (kont (qd28 fuel) qd30 qd45 256 (endK Tryd.prog 0 0 9)) fuel ).trans (congrFun (congr (Eq.refl (lawPOF_l9 (R := Out) fuel v2 q x0 x1)) ((lawPOF_s20_eq fuel  v2 q x0 x1).trans (congr (Eq.refl (lawPOF_s20 (R := Out) v2 q x0 x1)) ((lawPOF_l10_eq fuel v2 q x0 x1 (kont (qd28 fuel) qd30 qd44 256 (endK Tryd.prog 0 0 9)) fuel ).trans (congrFun (congr (Eq.refl (lawPOF_l10 (R := Out) fuel v2 q x0 x1)) ((lawPOF_s22_eq fuel  x0 q x1))) fuel))))) fuel))))) fuel) a2) a3) a4))))) ((lawPOF_s23_eq fuel  m v2 q).trans (congr (Eq.refl (lawPOF_s23 (R := Out) m v2 q)) (funext fun a13 => funext fun a14 => funext fun a15 => (lawPOF_l11_eq fuel v2 q (kont (qd28 fuel) qd30 qd51 256 (endK Tryd.prog 0 0 9)) fuel a13 a14 a15).trans (congrFun (congrFun (congrFun (congrFun (congr (congr (Eq.refl (lawPOF_l11 (R := Out) fuel v2 q)) (funext fun x12 => funext fun x13 => (lawPOF_s26_eq fuel  x13 x12 v2 q))) ((lawPOF_s27_eq fuel  v2 q))) fuel) a13) a14) a15))))) fuel) a0) a1)))
theorem lawPO_own {R : Type} (fuel : Nat) (m : List (Int × List Int)) (n : Int) (hn : 0 ≤ n ∧ n ≤ 64) (q : Int) (x : List ByteArray) (hx : x.length ≤ 64) (k0 : Nat → List ByteArray → Option R) : ∀ (k j : Nat) (acc : List ByteArray), j ≤ x.length → x.length < j + k → acc.length ≤ j →
    lawPOF_l2 fuel m n q x (x.length : Int) k0 k acc.length (j : Int) acc = k0 (acc ++ (x.drop j).map (ownB n)).length (acc ++ (x.drop j).map (ownB n))
  | 0, j, acc, h1, h2, _ => by omega
  | k + 1, j, acc, h1, h2, ha => by
    unfold lawPOF_l2 lawPOF_s3
    rw [br_if]
    by_cases hc : j < x.length
    · have hp := pad_len n.toNat x[j]
      unfold padB at hp
      rw [if_pos (by simpa using hc), bnd_of ((ix_nat x j).trans (List.getElem?_eq_getElem hc)), bnd_of (mkN_of (by omega) (by omega) (by omega)), grd_of (by rw [Nat.ble_eq, hp]; omega), grd_of (beq_self _), grd_of (okN_of (by omega) (by omega)), wrap_i64 (by omega) (by omega), show (j : Int) + 1 = ((j + 1 : Nat) : Int) by omega, List.drop_eq_getElem_cons hc, List.map_cons]
      have := lawPO_own fuel m n hn q x hx k0 k (j + 1) (acc ++ [ownB n x[j]]) (by omega) (by omega) (by simp; omega)
      rw [List.append_assoc] at this
      exact this
    · rw [if_neg (by simpa using hc), List.drop_eq_nil_of_le (by omega)]
      simp
theorem lawPO_own1 {R : Type} (fuel : Nat) (m : List (Int × List Int)) (n : Int) (hn : 0 ≤ n ∧ n ≤ 64) (q : Int) (x : List ByteArray) (hx : x.length ≤ 64) (k0 : Nat → List ByteArray → Option R) (k1 : Option R) (k : Nat) (hk : x.length + 1 < k) :
    lawPOF_l1 fuel m n q k0 k1 k x (x.length : Int) = if x.length = 0 then k1 else k0 (x.map (ownB n)).length (x.map (ownB n)) := by
  cases k with
  | zero => omega
  | succ k =>
    unfold lawPOF_l1 lawPOF_s2
    dsimp only
    rw [br_if]
    by_cases hy : 0 < x.length
    · have hp := pad_len n.toNat x[0]
      unfold padB at hp
      have e0 : ix x 0 = some x[0] := (ix_nat x 0).trans (List.getElem?_eq_getElem hy)
      rw [if_pos (by simpa using hy), if_neg (by omega), bnd_of e0, bnd_of (mkN_of (by omega) (by omega) (by omega)), grd_of (by rw [Nat.ble_eq, hp]; omega)]
      have ho := lawPO_own (R := R) fuel m n hn q x hx k0 k 1 [ownB n x[0]] (by omega) (by omega) (by simp)
      have hy1 : [ownB n x[0]] ++ (x.drop 1).map (ownB n) = x.map (ownB n) := by
        cases x with
        | nil => simp at hy
        | cons a t => rfl
      rw [hy1] at ho
      exact ho
    · rw [if_neg (by simpa using hy), if_pos (by omega)]
theorem lawPO_eqs {R : Type} (fuel : Nat) (n q : Int) (x : List ByteArray) (m : List (Int × List Int)) (hm : m.length ≤ 40) (hok : okM m = true) (k0 : Nat → List Eqn → Option R) : ∀ (k j : Nat) (acc : List Eqn), j ≤ m.length → m.length < j + k → acc.length ≤ j →
    lawPOF_l4 fuel n q x.length m (m.length : Int) x k0 k acc.length (j : Int) acc = k0 (acc ++ eqsP n x (m.drop j)).length (acc ++ eqsP n x (m.drop j))
  | 0, j, acc, h1, h2, _ => by omega
  | k + 1, j, acc, h1, h2, ha => by
    unfold lawPOF_l4 lawPOF_s6
    rw [br_if]
    by_cases hc : j < m.length
    · have hw : okW ((m[j]).2.take 3) = true := okW_iff.2 (ok_take (okW_iff.1 (okM_iff.1 hok _ (List.getElem_mem hc))) 3)
      rw [if_pos (by simpa using hc), bnd_of ((ix_nat m j).trans (List.getElem?_eq_getElem hc)), bnd_of (upTo3 _ 3 (c := 3) rfl), take3, grd_of hw, grd_of (beq_self _), grd_of (okN_of (by omega) (by omega)), take0, br_if, wrap_i64 (by omega) (by omega), show (j : Int) + 1 = ((j + 1 : Nat) : Int) by omega, List.drop_eq_getElem_cons hc, eqsP_cons]
      by_cases h : keepP n x m[j] = true
      · rw [if_pos h, if_pos (show (pickE n x (m[j]).1 ((m[j]).2.take 3) == 0) = true from h)]
        have := lawPO_eqs fuel n q x m hm hok k0 k (j + 1) (acc ++ [eqP n x m[j]]) (by omega) (by omega) (by simp; omega)
        rw [List.append_assoc] at this
        exact this
      · rw [if_neg h, if_neg (show ¬ (pickE n x (m[j]).1 ((m[j]).2.take 3) == 0) = true from h)]
        exact lawPO_eqs fuel n q x m hm hok k0 k (j + 1) acc (by omega) (by omega) (by omega)
    · rw [if_neg (by simpa using hc), List.drop_eq_nil_of_le (by omega)]
      unfold eqsP
      simp
theorem lawPO_eq1 {R : Type} (fuel : Nat) (n q : Int) (x : List ByteArray) (m : List (Int × List Int)) (hm : m.length ≤ 40) (hok : okM m = true) (k0 : Nat → List Eqn → Option R) (k1 : Option R) : ∀ (k j : Nat), j ≤ m.length → m.length < j + k →
    lawPOF_l3 fuel n q x.length x k0 k1 k m (m.length : Int) (j : Int) = if (eqsP n x (m.drop j)).length = 0 then k1 else k0 (eqsP n x (m.drop j)).length (eqsP n x (m.drop j))
  | 0, j, h1, h2 => by omega
  | k + 1, j, h1, h2 => by
    unfold lawPOF_l3 lawPOF_s5
    rw [br_if]
    by_cases hc : j < m.length
    · have hw : okW ((m[j]).2.take 3) = true := okW_iff.2 (ok_take (okW_iff.1 (okM_iff.1 hok _ (List.getElem_mem hc))) 3)
      rw [if_pos (by simpa using hc), bnd_of ((ix_nat m j).trans (List.getElem?_eq_getElem hc)), bnd_of (upTo3 _ 3 (c := 3) rfl), take3, grd_of hw, take0, br_if, wrap_i64 (by omega) (by omega), show (j : Int) + 1 = ((j + 1 : Nat) : Int) by omega, List.drop_eq_getElem_cons hc, eqsP_cons]
      by_cases h : keepP n x m[j] = true
      · rw [if_pos h, if_pos (show (pickE n x (m[j]).1 ((m[j]).2.take 3) == 0) = true from h), if_neg (by simp)]
        cases k with
        | zero => omega
        | succ k => exact lawPO_eqs fuel n q x m hm hok _ (k + 1) (j + 1) [eqP n x m[j]] (by omega) (by omega) (by simp)
      · rw [if_neg h, if_neg (show ¬ (pickE n x (m[j]).1 ((m[j]).2.take 3) == 0) = true from h)]
        exact lawPO_eq1 fuel n q x m hm hok k0 k1 k (j + 1) (by omega) (by omega)
    · rw [if_neg (by simpa using hc), List.drop_eq_nil_of_le (by omega), if_pos (by rfl)]
theorem lawPO_eqsN {R : Type} (fuel : Nat) (n q : Int) (m : List (Int × List Int)) (hm : m.length ≤ 40) (hok : okM m = true) (k0 : Nat → List Eqn → Option R) : ∀ (k j : Nat) (acc : List Eqn), j ≤ m.length → m.length < j + k → acc.length ≤ j →
    lawPOF_l12 fuel n q m (m.length : Int) k0 k acc.length (j : Int) acc = k0 (acc ++ eqsP n [] (m.drop j)).length (acc ++ eqsP n [] (m.drop j))
  | 0, j, acc, h1, h2, _ => by omega
  | k + 1, j, acc, h1, h2, ha => by
    unfold lawPOF_l12 lawPOF_s25
    rw [br_if]
    by_cases hc : j < m.length
    · have hw : okW ((m[j]).2.take 3) = true := okW_iff.2 (ok_take (okW_iff.1 (okM_iff.1 hok _ (List.getElem_mem hc))) 3)
      rw [if_pos (by simpa using hc), bnd_of ((ix_nat m j).trans (List.getElem?_eq_getElem hc)), bnd_of (upTo3 _ 3 (c := 3) rfl), take3, grd_of hw, grd_of (beq_self _), grd_of (okN_of (by omega) (by omega)), br_if, wrap_i64 (by omega) (by omega), show (j : Int) + 1 = ((j + 1 : Nat) : Int) by omega, List.drop_eq_getElem_cons hc, eqsP_cons]
      by_cases h : keepP n [] m[j] = true
      · rw [if_pos h, if_pos (show (pickE n [] (m[j]).1 ((m[j]).2.take 3) == 0) = true from h)]
        have := lawPO_eqsN fuel n q m hm hok k0 k (j + 1) (acc ++ [eqP n [] m[j]]) (by omega) (by omega) (by simp; omega)
        rw [List.append_assoc] at this
        exact this
      · rw [if_neg h, if_neg (show ¬ (pickE n [] (m[j]).1 ((m[j]).2.take 3) == 0) = true from h)]
        exact lawPO_eqsN fuel n q m hm hok k0 k (j + 1) acc (by omega) (by omega) (by omega)
    · rw [if_neg (by simpa using hc), List.drop_eq_nil_of_le (by omega)]
      unfold eqsP
      simp
theorem lawPO_eq1N {R : Type} (fuel : Nat) (n q : Int) (m : List (Int × List Int)) (hm : m.length ≤ 40) (hok : okM m = true) (k0 : Nat → List Eqn → Option R) (k1 : Option R) : ∀ (k j : Nat), j ≤ m.length → m.length < j + k →
    lawPOF_l11 fuel n q k0 k1 k m (m.length : Int) (j : Int) = if (eqsP n [] (m.drop j)).length = 0 then k1 else k0 (eqsP n [] (m.drop j)).length (eqsP n [] (m.drop j))
  | 0, j, h1, h2 => by omega
  | k + 1, j, h1, h2 => by
    unfold lawPOF_l11 lawPOF_s24
    rw [br_if]
    by_cases hc : j < m.length
    · have hw : okW ((m[j]).2.take 3) = true := okW_iff.2 (ok_take (okW_iff.1 (okM_iff.1 hok _ (List.getElem_mem hc))) 3)
      rw [if_pos (by simpa using hc), bnd_of ((ix_nat m j).trans (List.getElem?_eq_getElem hc)), bnd_of (upTo3 _ 3 (c := 3) rfl), take3, grd_of hw, br_if, wrap_i64 (by omega) (by omega), show (j : Int) + 1 = ((j + 1 : Nat) : Int) by omega, List.drop_eq_getElem_cons hc, eqsP_cons]
      by_cases h : keepP n [] m[j] = true
      · rw [if_pos h, if_pos (show (pickE n [] (m[j]).1 ((m[j]).2.take 3) == 0) = true from h), if_neg (by simp)]
        cases k with
        | zero => omega
        | succ k => exact lawPO_eqsN fuel n q m hm hok _ (k + 1) (j + 1) [eqP n [] m[j]] (by omega) (by omega) (by simp)
      · rw [if_neg h, if_neg (show ¬ (pickE n [] (m[j]).1 ((m[j]).2.take 3) == 0) = true from h)]
        exact lawPO_eq1N fuel n q m hm hok k0 k1 k (j + 1) (by omega) (by omega)
    · rw [if_neg (by simpa using hc), List.drop_eq_nil_of_le (by omega), if_pos (by rfl)]
theorem lawPO_at {R : Type} (fuel : Nat) (n q : Int) (x115 : Nat) (x : List ByteArray) (x116 : List Eqn) (at' : List Int) (hl : at'.length ≤ 64) (hr : ∀ i, i ∈ at' → 0 ≤ i ∧ i < (x.length : Int)) (left : List Eqn) (k0 k1 : List Int → List ByteArray → List Eqn → Option R) : ∀ (k j : Nat), j ≤ at'.length → at'.length < j + k →
    lawPOF_l5 fuel n q x.length x115 x x116 k0 k1 k at' (at'.length : Int) (j : Int) (at'.map fun i => x.getD i.toNat ByteArray.empty) left = k1 at' (at'.map fun i => x.getD i.toNat ByteArray.empty) left
  | 0, j, h1, h2 => by omega
  | k + 1, j, h1, h2 => by
    unfold lawPOF_l5 lawPOF_s8
    rw [br_if]
    by_cases hc : j < at'.length
    · obtain ⟨r1, r2⟩ := hr _ (List.getElem_mem hc)
      obtain ⟨i, hi⟩ : ∃ i : Nat, at'[j] = (i : Int) := ⟨(at'[j]).toNat, by omega⟩
      have e1 : ix (at'.map fun i => x.getD i.toNat ByteArray.empty) (j : Int) = some (x[i]'(by omega)) := by
        rw [ix_nat, List.getElem?_map, List.getElem?_eq_getElem hc, hi]
        show some (x.getD ((i : Int)).toNat ByteArray.empty) = _
        rw [Int.toNat_natCast, List.getD_eq_getElem?_getD, List.getElem?_eq_getElem (by omega)]; rfl
      have e2 : x[0 + i]? = some (x[i]'(by omega)) := by rw [Nat.zero_add]; exact List.getElem?_eq_getElem (by omega)
      have e3 : below (i : Int) x.length = some i := by rw [below_of (by omega) (by omega)]; rfl
      rw [if_pos (by simpa using hc), bnd_of ((ix_nat at' j).trans (List.getElem?_eq_getElem hc)), hi, br_if, if_neg (by simp), br_if, if_neg (by simp; omega), bnd_of e1, bnd_of e3, bnd_of e2, br_if, if_neg (by rw [eqS_iff.2 rfl]; decide), wrap_i64 (by omega) (by omega), show (j : Int) + 1 = ((j + 1 : Nat) : Int) by omega]
      exact lawPO_at fuel n q x115 x x116 at' hl hr left k0 k1 k (j + 1) (by omega) (by omega)
    · rw [if_neg (by simpa using hc)]
theorem lawPO_left {R : Type} (fuel : Nat) (n q : Int) (x115 : Nat) (x : List ByteArray) (hb : bok n x = true) (x116 left : List Eqn) (hl : left.length ≤ 64) (ho : ∀ e, e ∈ left → Of n x e) (x173 : List Int) (x174 : List ByteArray) (k0 k1 : Option R) : ∀ (k j : Nat), j ≤ left.length → left.length < j + k →
    lawPOF_l6 fuel n q x.length x115 left x x116 x173 x174 k0 k1 k (left.length : Int) (j : Int) = k1
  | 0, j, h1, h2 => by omega
  | k + 1, j, h1, h2 => by
    unfold lawPOF_l6 lawPOF_s11
    rw [br_if]
    by_cases hc : j < left.length
    · have h := ho _ (List.getElem_mem hc)
      obtain ⟨p1, p2⟩ := of_pick hb h
      rw [if_pos (by simpa using hc), bnd_of ((ix_nat left j).trans (List.getElem?_eq_getElem hc)), grd_of h.2.1, take0, p1, p2, br_if, if_neg (by decide), br_if, if_neg (by rw [eqS_iff.2 rfl]; decide), wrap_i64 (by omega) (by omega), show (j : Int) + 1 = ((j + 1 : Nat) : Int) by omega]
      exact lawPO_left fuel n q x115 x hb x116 left hl ho x173 x174 k0 k1 k (j + 1) (by omega) (by omega)
    · rw [if_neg (by simpa using hc)]
theorem turn_ix {r : List Eqn} (hr : r.length ≤ 64) {b i : Nat} (hb : b < r.length) (hi : i < r.length) : divI .rem .i64 (IntKind.i64.wrap ((IntKind.i64.wrap ((b : Int) + ((r.length : Nat) : Int))) - (i : Int))) ((r.length : Nat) : Int) = some (((b + r.length - i) % r.length : Nat) : Int) := by
  rw [wrap_i64 (x := (b : Int) + ((r.length : Nat) : Int)) (by omega) (by omega), wrap_i64 (x := (b : Int) + ((r.length : Nat) : Int) - (i : Int)) (by omega) (by omega), rem_pos (by omega) (by omega)]
  congr 1
  rw [Int.natCast_emod]
  congr 1
  omega
theorem lawPO_turn {R : Type} (fuel : Nat) (n : Nat) (x : List ByteArray) (r : List Eqn) (hr : r.length ≤ 64) (b : Nat) (hb : b < r.length) (x173 : List Int) (x174 : List ByteArray) (x175 : List Eqn) (k0 : Nat → List Eqn → Option R) : ∀ (k j : Nat), j ≤ r.length → r.length < j + k →
    lawPOF_l8 fuel (b : Int) n r.length (r.length : Int) x r x173 x174 x175 k0 k ((List.range j).map fun i => r.getD ((b + r.length - i) % r.length) noE).length (j : Int) ((List.range j).map fun i => r.getD ((b + r.length - i) % r.length) noE) = k0 ((List.range r.length).map fun i => r.getD ((b + r.length - i) % r.length) noE).length ((List.range r.length).map fun i => r.getD ((b + r.length - i) % r.length) noE)
  | 0, j, h1, h2 => by omega
  | k + 1, j, h1, h2 => by
    unfold lawPOF_l8 lawPOF_s15
    rw [br_if]
    by_cases hc : j < r.length
    · have hmod : (b + r.length - j) % r.length < r.length := Nat.mod_lt _ (by omega)
      have e3 : below (((b + r.length - j) % r.length : Nat) : Int) r.length = some ((b + r.length - j) % r.length) := by rw [below_of (by omega) (by omega)]; rfl
      have e2 : r[0 + (b + r.length - j) % r.length]? = some (r.getD ((b + r.length - j) % r.length) noE) := by rw [Nat.zero_add, getD_eqn hmod]; exact List.getElem?_eq_getElem hmod
      have e4 : ((List.range j).map fun i => r.getD ((b + r.length - i) % r.length) noE) ++ [r.getD ((b + r.length - j) % r.length) noE] = (List.range (j + 1)).map fun i => r.getD ((b + r.length - i) % r.length) noE := by rw [List.range_succ, List.map_append]; rfl
      rw [if_pos (by simpa using hc), bnd_of (turn_ix hr hb hc), bnd_of e3, bnd_of e2, grd_of (beq_self _), grd_of (okN_of (by simp; omega) (by simp; omega)), wrap_i64 (by omega) (by omega), show (j : Int) + 1 = ((j + 1 : Nat) : Int) by omega, e4]
      exact lawPO_turn fuel n x r hr b hb x173 x174 x175 k0 k (j + 1) (by omega) (by omega)
    · have e : j = r.length := by omega
      subst e
      rw [if_neg (by simp)]
theorem lawPO_turn1 {R : Type} (fuel : Nat) (n : Nat) (x : List ByteArray) (r : List Eqn) (hr : r.length ≤ 64) (b : Nat) (hb : b < r.length) (x173 : List Int) (x174 : List ByteArray) (x175 : List Eqn) (k0 : Nat → List Eqn → Option R) (k1 : Option R) (k : Nat) (hk : r.length + 1 < k) :
    lawPOF_l7 fuel (b : Int) n r.length x r x173 x174 x175 k0 k1 k (r.length : Int) = k0 ((List.range r.length).map fun i => r.getD ((b + r.length - i) % r.length) noE).length ((List.range r.length).map fun i => r.getD ((b + r.length - i) % r.length) noE) := by
  cases k with
  | zero => omega
  | succ k =>
    unfold lawPOF_l7 lawPOF_s14
    have hmod : (b + r.length - 0) % r.length < r.length := Nat.mod_lt _ (by omega)
    have e3 : below (((b + r.length - 0) % r.length : Nat) : Int) r.length = some ((b + r.length - 0) % r.length) := by rw [below_of (by omega) (by omega)]; rfl
    have e2 : r[0 + (b + r.length - 0) % r.length]? = some (r.getD ((b + r.length - 0) % r.length) noE) := by rw [Nat.zero_add, getD_eqn hmod]; exact List.getElem?_eq_getElem hmod
    have e4 := turn_ix (i := 0) hr hb (by omega)
    rw [show ((0 : Nat) : Int) = 0 from rfl] at e4
    dsimp only
    rw [br_if, if_pos (by simp; omega), bnd_of e4, bnd_of e3, bnd_of e2]
    exact lawPO_turn fuel n x r hr b hb x173 x174 x175 k0 k 1 (by omega) (by omega)
theorem lawPO_fact (m : List (Int × List Int)) (n : Int) (x : List ByteArray) (q : Int) (hg : (okM m) = true) : Fact Tryd.prog gTab 9 [.lt (.pair (.int .i64) (.sl (.int .u64))) m, .s (.int .i64 n), .ls x, .s (.int .i64 q)] [] (.s (.bool true), []) := by
  refine callN_fact hN hM T_Step_ok (n := 70) (mode := mode16) ?_
  rw [lawPOF_eq]
  unfold lawPOF lawPOF_s1
  obtain ⟨v, e1, h1, h2⟩ := remA n (b := 65) (by decide)
  obtain ⟨u, e2, h3, h4⟩ := remB (a := v + 65) (b := 65) (by omega) (by decide)
  rw [bnd_of e1, wrap_i64 (x := v + 65) (by omega) (by omega), bnd_of e2, bnd_of (upTo3 _ 64 (c := 64) rfl), takeK]
  clear e1 e2 h1 h2
  have hu : 0 ≤ u ∧ u ≤ 64 := by omega
  have hxl : (x.take 64).length ≤ 64 := by rw [List.length_take]; omega
  generalize x.take 64 = y at *
  have hml : (m.take 40).length ≤ 40 := by rw [List.length_take]; omega
  have hmok : okM (m.take 40) = true := okM_iff.2 fun e he => okM_iff.1 hg e (List.mem_of_mem_take he)
  have hown := fun k0 k1 => lawPO_own1 (R := Out) 70 (m := m) u hu q y hxl k0 k1 70 (by omega)
  dsimp only
  rw [hown]
  by_cases hy : 0 < y.length
  · rw [if_neg (by omega)]
    have hbl : (y.map (ownB u)).length ≤ 64 := by rw [List.length_map]; exact hxl
    have hbp : 1 ≤ (y.map (ownB u)).length := by rw [List.length_map]; exact hy
    have hbs : ∀ s, s ∈ y.map (ownB u) → s.size = u.toNat := fun s hs => by
      obtain ⟨w, _, rfl⟩ := List.mem_map.1 hs
      exact own_size w
    generalize y.map (ownB u) = z at *
    have nz : ∀ k : Nat, 1 ≤ k → ¬ ((((k : Nat) : Int) == 0) = true) := fun k h => by rw [beq_iff_eq]; omega
    have hbok : bok u z = true := bok_iff.2 ⟨hu, hbl, fun s hs => by have := hbs s hs; omega⟩
    unfold lawPOF_s4
    rw [bnd_of (upTo3 _ 40 (c := 40) rfl), takeK]
    dsimp only
    generalize m.take 40 = w at *
    have h1 := fun k0 k1 => lawPO_eq1 (R := Out) 70 u q z w hml hmok k0 k1 70 0 (by omega) (by omega)
    rw [List.drop_zero, show ((0 : Nat) : Int) = 0 from rfl] at h1
    rw [h1]
    have hO := eqs_of (n := u) (x := z) hmok
    have hL : (eqsP u z w).length ≤ 64 := by have := eqs_len (n := u) (x := z) (m := w); omega
    generalize eqsP u z w = r at *
    have hok : okE r = true := okE_iff.2 fun e he => (hO e he).2.1
    by_cases hr : r.length = 0
    · obtain rfl := List.eq_nil_of_length_eq_zero hr
      have hm0 := po_may hu ⟨hbp, hbl⟩ hbs (r := []) (by simp) (fun e he => by simp at he)
      rw [if_pos hr]
      unfold lawPOF_s18
      rw [br_if, if_neg (nz _ hbp), hm0, br_if, if_neg (by decide)]
      unfold lawPOF_l9 lawPOF_s19 lawPOF_s20 lawPOF_l10 lawPOF_s21 lawPOF_s22
      dsimp only
      rw [grd_of (by rw [hok]; rfl), stpE_eq]
      unfold stpEI
      rw [if_pos hm0, step_nil, if_pos (by decide), br_if, if_neg (by decide)]
    · rw [if_neg hr]
      unfold lawPOF_s7
      have hm0 := po_may hu ⟨hbp, hbl⟩ hbs hL hO
      obtain ⟨t1, t2⟩ := po_told hu ⟨hbp, hbl⟩ hbs hL hO
      obtain ⟨l1, l2, l3⟩ := po_left hu ⟨hbp, hbl⟩ hbs hL hO
      obtain ⟨s1, s2, s3⟩ := left_sub hok hm0
      rw [take0, grd_of (by rw [hok]; simp; omega), br_if, if_neg (nz _ hbp), hm0, br_if, if_neg (by decide), br_if, if_neg (by rw [t1]; simp)]
      dsimp only
      rw [t1]
      have hat := fun k0 k1 => lawPO_at (R := Out) 70 u q r.length z r (pAt (z.length : Int) r) s2 t2 (pLeft (z.length : Int) r) k0 k1 70 0 (by omega) (by omega)
      rw [show ((0 : Nat) : Int) = 0 from rfl] at hat
      rw [hat]
      unfold lawPOF_s10
      dsimp only
      have hlf := fun x173 x174 k0 k1 => lawPO_left (R := Out) 70 u q r.length z hbok r (pLeft (z.length : Int) r) l1 l2 x173 x174 k0 k1 70 0 (by omega) (by omega)
      rw [show ((0 : Nat) : Int) = 0 from rfl] at hlf
      rw [hlf]
      unfold lawPOF_s13
      have hm1 := po_may hu ⟨hbp, hbl⟩ hbs l1 l2
      have hokl : okE (pLeft (z.length : Int) r) = true := okE_iff.2 fun e he => (l2 e he).2.1
      rw [grd_of (by rw [hokl]; simp; omega), stpE_eq]
      unfold stpEI
      rw [if_pos hm1, l3, if_pos (by decide), br_if, if_neg (by decide), br_if, if_neg (nz _ (by omega))]
      obtain ⟨v', e1, b1, b2⟩ := remA q (b := ((r.length : Nat) : Int)) (by omega)
      obtain ⟨u', e2, b3, b4⟩ := remB (a := v' + ((r.length : Nat) : Int)) (b := ((r.length : Nat) : Int)) (by omega) (by omega)
      rw [bnd_of e1, wrap_i64 (x := v' + ((r.length : Nat) : Int)) (by omega) (by omega), bnd_of e2]
      clear e1 e2 b1 b2
      obtain ⟨b, rfl⟩ : ∃ b : Nat, u' = (b : Int) := ⟨u'.toNat, by omega⟩
      have hb : b < r.length := by omega
      dsimp only
      have ht := fun x173 x174 x175 k0 k1 => lawPO_turn1 (R := Out) 70 z.length z r hL b hb x173 x174 x175 k0 k1 70 (by omega)
      rw [ht]
      have hperm := turned_perm hb
      generalize ((List.range r.length).map fun i => r.getD ((b + r.length - i) % r.length) noE) = t at *
      have hOt : ∀ e, e ∈ t → Of u z e := fun e he => hO e (hperm.mem_iff.2 he)
      have htl : t.length = r.length := hperm.length_eq.symm
      have hm2 := po_may hu ⟨hbp, hbl⟩ hbs (by omega) hOt
      have hokt : okE t = true := okE_iff.2 fun e he => (hOt e he).2.1
      obtain ⟨q1, q2⟩ := po_perm hu ⟨hbp, hbl⟩ hbs hL hO hperm
      unfold lawPOF_s16
      rw [take0, grd_of (by rw [hokt]; simp; omega), hm2, br_if, if_pos (by decide), grd_of (by simp; omega), ← q1, ← q2, eqS_li_self, br_tt]
      simp
  · have hy0 := List.eq_nil_of_length_eq_zero (Nat.eq_zero_of_not_pos hy)
    rw [if_pos (by omega)]
    unfold lawPOF_s23
    rw [bnd_of (upTo3 _ 40 (c := 40) rfl), takeK]
    dsimp only
    generalize m.take 40 = w at *
    have h1 := fun k0 k1 => lawPO_eq1N (R := Out) 70 u q w hml hmok k0 k1 70 0 (by omega) (by omega)
    rw [List.drop_zero, show ((0 : Nat) : Int) = 0 from rfl] at h1
    rw [h1]
    have hO := eqs_of (n := u) (x := []) hmok
    have hL : (eqsP u [] w).length ≤ 64 := by have := eqs_len (n := u) (x := []) (m := w); omega
    generalize eqsP u [] w = r at *
    have hok : okE r = true := okE_iff.2 fun e he => (hO e he).2.1
    have hno : ∀ r, ¬ mayB 0 r = true := fun r h => by have := (mayB_iff.1 h).1.1; omega
    by_cases hr : r.length = 0
    · rw [if_pos hr]
      unfold lawPOF_s27
      rw [if_neg (hno _)]; rfl
    · rw [if_neg hr]
      unfold lawPOF_s26
      rw [take0, grd_of (by rw [hok]; simp; omega), if_neg (hno _)]; rfl
noncomputable def lawPO_ent : List V → List Blk → Option (Bool × Out)
  | [w0, .s (.int .i64 n), w1, .s (.int .i64 q)], [] => (asSl (.pair (.int .i64) (.sl (.int .u64))) w0).bind fun m => (asSl .str w1).bind fun x => some ((okM m), (.s (.bool true), []))
  | _, _ => none
theorem lawPO_ok : ∀ args bs out, lawPO_ent args bs = some (true, out) → Fact Tryd.prog gTab 9 args bs out := by
  intro args bs out h
  unfold lawPO_ent at h
  split at h
  · rename_i w0 n w1 q
    obtain ⟨m, h_m, h⟩ := Option.bind_eq_some_iff.1 h
    obtain ⟨x, h_x, h⟩ := Option.bind_eq_some_iff.1 h
    simp only [Option.some.injEq, Prod.mk.injEq] at h
    obtain ⟨hg, rfl⟩ := h
    exact (lawPO_fact m n x q hg).args (fun _ _ _ => fun _ h => RVs_two (fun _ h => RV_sl (s := (.pair (.int .i64) (.sl (.int .u64)))) h_m h) (fun _ h => RVs_two (fun _ h => h) (fun _ h => RVs_two (fun _ h => RV_ls h_x h) (fun _ h => h) h) h) h)
  · cases h
noncomputable def T_lawPO : Tbl := Tbl.cons 9 lawPO_ent T_Step
theorem T_lawPO_ok : CallOk Tryd.prog gTab T_lawPO := cons_ok T_Step_ok lawPO_ok
end Go.Proofs.YtfpdcfgjhkiklaaDoor
