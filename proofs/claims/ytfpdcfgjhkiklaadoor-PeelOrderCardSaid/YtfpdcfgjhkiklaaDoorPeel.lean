/- Equations that are peeled: what the program tells. -/
import Derived.Test.YtfpdcfgjhkiklaaDoorPmTab
import Derived.KernelRfl
import Derived.Test.YtfpdcfgjhkiklaaDoorProg
import Derived.Test.YtfpdcfgjhkiklaaDoorPoBlk
set_option autoImplicit false
set_option maxRecDepth 100000
set_option maxHeartbeats 4000000
set_option linter.unusedVariables false
set_option linter.unusedSimpArgs false
namespace Go.Proofs.YtfpdcfgjhkiklaaDoor
open Go Go.PM Go.Proofs Go.Shelf Go.PM.Row Go.PM.Bits Go.PM.Bit Go.PM.Blk
/-! Equations that are peeled. -/
abbrev Eqn := (Int × List Int) × ByteArray
abbrev noE : Eqn := ((0, []), ByteArray.empty)
noncomputable def oneI (n : Int) (ws : List Int) : Int := if rtS n ws = true ∧ (plS ws).length = 1 then (plS ws).headD 0 else -1
noncomputable def oneS : Int → List Int → Int := Classical.choose (⟨oneI, rfl⟩ : ∃ f, f = oneI)
theorem oneS_eq : oneS = oneI := Classical.choose_spec (⟨oneI, rfl⟩ : ∃ f, f = oneI)
noncomputable def okEI (r : List Eqn) : Bool := r.all fun e => okW e.1.2
noncomputable def okE : List Eqn → Bool := Classical.choose (⟨okEI, rfl⟩ : ∃ f, f = okEI)
theorem okE_eq : okE = okEI := Classical.choose_spec (⟨okEI, rfl⟩ : ∃ f, f = okEI)
theorem okE_iff {r : List Eqn} : okE r = true ↔ ∀ e, e ∈ r → okW e.1.2 = true := by rw [okE_eq]; unfold okEI; simp
noncomputable def mayI (z : Int) (r : List Eqn) : Bool := decide (1 ≤ z) && decide (z ≤ 64) && decide (r.length ≤ 64) && r.all fun e => decide (e.1.1 = z) && rtS e.1.1 e.1.2 && decide (e.2.size = (r.headD noE).2.size) && decide (e.2.size ≤ 64)
noncomputable def mayB : Int → List Eqn → Bool := Classical.choose (⟨mayI, rfl⟩ : ∃ f, f = mayI)
theorem mayB_eq : mayB = mayI := Classical.choose_spec (⟨mayI, rfl⟩ : ∃ f, f = mayI)
theorem mayB_iff {z : Int} {r : List Eqn} : mayB z r = true ↔ (1 ≤ z ∧ z ≤ 64) ∧ r.length ≤ 64 ∧ ∀ e, e ∈ r → e.1.1 = z ∧ rtS e.1.1 e.1.2 = true ∧ e.2.size = (r.headD noE).2.size ∧ e.2.size ≤ 64 := by
  rw [mayB_eq]; unfold mayI; simp [and_assoc]
/-- The first equation of one block, from a place on. -/
noncomputable def stepFrom : List Eqn → Int → Int
  | [], _ => -1
  | e :: t, j => if 0 ≤ oneS e.1.1 e.1.2 then j else stepFrom t (j + 1)
noncomputable def stepI (r : List Eqn) : Int := stepFrom r 0
noncomputable def stepS : List Eqn → Int := Classical.choose (⟨stepI, rfl⟩ : ∃ f, f = stepI)
theorem stepS_eq : stepS = stepI := Classical.choose_spec (⟨stepI, rfl⟩ : ∃ f, f = stepI)
/-- An equation without a block. -/
noncomputable def outI (e : Eqn) (i : Int) (s : ByteArray) : Eqn := if getS e.1.1 e.1.2 i = 0 then e else ((xorN e.1.1 e.1.2 (if ofOk e.1.1 [i] = true then e.1.1 else 0) (if ofOk e.1.1 [i] = true then ofS e.1.1 [i] else []), xorW e.1.1 e.1.2 (if ofOk e.1.1 [i] = true then e.1.1 else 0) (if ofOk e.1.1 [i] = true then ofS e.1.1 [i] else [])), xorT e.2 s)
noncomputable def outE : Eqn → Int → ByteArray → Eqn := Classical.choose (⟨outI, rfl⟩ : ∃ f, f = outI)
theorem outE_eq : outE = outI := Classical.choose_spec (⟨outI, rfl⟩ : ∃ f, f = outI)
theorem ok_nil : okW [] = true := okW_iff.2 fun w h => by simp at h
theorem ok_of (n : Int) (l : List Int) : okW (if ofOk n l = true then ofS n l else []) = true := by
  split
  · exact okW_iff.2 (of_ok _ _)
  · exact ok_nil
/-- A row that may be, without a place. -/
theorem out_row {n : Int} {ws : List Int} {i : Int} (hok : okW ws = true) (h : rtS n ws = true) (h0 : 0 ≤ i) (h1 : i < n) : ofOk n [i] = true ∧ rtS n (ofS n [i]) = true ∧ okW (ofS n [i]) = true ∧ val (ofS n [i]) = 2 ^ i.toNat := by
  obtain ⟨⟨g0, g1⟩, g2, g3⟩ := rtS_iff.1 h
  have hr : ∀ z ∈ [i], 0 ≤ z ∧ z < n := fun z hz => by
    rw [List.mem_singleton] at hz; subst hz; exact ⟨h0, h1⟩
  have hv : val (ofS n [i]) = mask [i] := by
    have hw := nw_cast g0
    obtain ⟨m, rfl⟩ : ∃ m : Nat, n = (m : Int) := ⟨n.toNat, by omega⟩
    have hm := mask_lt hr
    rw [of_eq hr, val_words, Nat.mod_eq_of_lt (Nat.lt_of_lt_of_le hm (Nat.pow_le_pow_right (by omega) (by omega)))]
  have hv2 : mask [i] = 2 ^ i.toNat := by simp [mask]
  refine ⟨ofOk_iff.2 ⟨⟨g0, g1⟩, hr⟩, rtS_iff.2 ⟨⟨g0, g1⟩, of_len n [i], ?_⟩, okW_iff.2 (of_ok _ _), hv.trans hv2⟩
  rw [hv, hv2]
  exact Nat.pow_lt_pow_right (by omega) (by omega)
theorem get_bit {n : Int} {ws : List Int} {i : Int} (h : rtS n ws = true) (h0 : 0 ≤ i) (h1 : i < n) : getS n ws i = if (val ws).testBit i.toNat = true then 1 else 0 := by
  rw [getS_eq]; unfold getI
  rw [if_pos ⟨h, h0, h1⟩]; rfl
/-- What becomes of an equation that may be. -/
theorem out_spec {n : Int} {ws : List Int} {t s : ByteArray} {i : Int} (hok : okW ws = true) (h : rtS n ws = true) (h0 : 0 ≤ i) (h1 : i < n) :
    (outE ((n, ws), t) i s).1.1 = n ∧ okW (outE ((n, ws), t) i s).1.2 = true ∧ rtS n (outE ((n, ws), t) i s).1.2 = true ∧ (∀ j, (val (outE ((n, ws), t) i s).1.2).testBit j = ((val ws).testBit j && decide (j ≠ i.toNat))) ∧ (outE ((n, ws), t) i s).2 = if (val ws).testBit i.toNat = true then xorT t s else t := by
  obtain ⟨g1, g2, g3, g4⟩ := out_row hok h h0 h1
  rw [outE_eq]; unfold outI
  rw [get_bit h h0 h1]
  by_cases hb : (val ws).testBit i.toNat = true
  · obtain ⟨x1, x2, x3⟩ := xor_rt hok g3 h g2 rfl
    obtain ⟨y1, y2, y3⟩ := xor_val hok g3 h g2 rfl
    rw [if_pos hb, if_pos hb, if_neg (by decide), if_pos g1, if_pos g1]
    refine ⟨x3, x1, x2, fun j => ?_, rfl⟩
    rw [y2, g4, Nat.testBit_xor, Nat.testBit_two_pow]
    by_cases hj : i.toNat = j
    · subst hj; simp [hb]
    · simp [hj, Ne.symm hj]
  · rw [if_neg hb, if_neg hb, if_pos rfl]
    refine ⟨rfl, hok, h, fun j => ?_, rfl⟩
    by_cases hj : j = i.toNat
    · subst hj; simp [hb]
    · simp [hj]
theorem xorT_size {a b : ByteArray} (h : a.size = b.size) (h2 : a.size ≤ 64) : (xorT a b).size = a.size := by
  rw [xorT_eq]; unfold xorTI
  rw [if_pos (bok_iff.2 ⟨⟨by omega, by omega⟩, by simp, fun s hs => by
    simp only [List.mem_cons, List.not_mem_nil, or_false] at hs
    rcases hs with rfl | rfl <;> omega⟩), txt_size, xb_len, bytes_len, bytes_len]
  omega
/-- Flags: the places that are 1, and what stands there. -/
def placesFrom : List Int → Int → List Int
  | [], _ => []
  | x :: t, j => if x = 1 then j :: placesFrom t (j + 1) else placesFrom t (j + 1)
def toldFrom : List Int → List ByteArray → List ByteArray
  | x :: l, y :: t => if x = 1 then y :: toldFrom l t else toldFrom l t
  | _, _ => []
noncomputable def leftI (e : Eqn) : Bool := decide (0 < (if rtS e.1.1 e.1.2 = true then (((plS e.1.2).length : Nat) : Int) else 0)) || !nought e.2
noncomputable def leftB : Eqn → Bool := Classical.choose (⟨leftI, rfl⟩ : ∃ f, f = leftI)
theorem leftB_eq : leftB = leftI := Classical.choose_spec (⟨leftI, rfl⟩ : ∃ f, f = leftI)
noncomputable def peelN : Nat → List Eqn → List ByteArray → List Int → List Eqn × List ByteArray × List Int
  | 0, r, t, l => (r, t, l)
  | f + 1, r, t, l => if stepS r < 0 then (r, t, l) else peelN f (r.map fun e => outE e (oneS (r.getD (stepS r).toNat noE).1.1 (r.getD (stepS r).toNat noE).1.2) (r.getD (stepS r).toNat noE).2) (t.set (oneS (r.getD (stepS r).toNat noE).1.1 (r.getD (stepS r).toNat noE).1.2).toNat (r.getD (stepS r).toNat noE).2) (l.set (oneS (r.getD (stepS r).toNat noE).1.1 (r.getD (stepS r).toNat noE).1.2).toNat 1)
noncomputable def pEndI (z : Int) (r : List Eqn) : List Eqn × List ByteArray × List Int := peelN 64 r (List.replicate z.toNat ByteArray.empty) (List.replicate z.toNat 0)
noncomputable def pEnd : Int → List Eqn → List Eqn × List ByteArray × List Int := Classical.choose (⟨pEndI, rfl⟩ : ∃ f, f = pEndI)
theorem pEnd_eq : pEnd = pEndI := Classical.choose_spec (⟨pEndI, rfl⟩ : ∃ f, f = pEndI)
noncomputable def pAtI (z : Int) (r : List Eqn) : List Int := if mayB z r = true then placesFrom (pEnd z r).2.2 0 else []
noncomputable def pAt : Int → List Eqn → List Int := Classical.choose (⟨pAtI, rfl⟩ : ∃ f, f = pAtI)
theorem pAt_eq : pAt = pAtI := Classical.choose_spec (⟨pAtI, rfl⟩ : ∃ f, f = pAtI)
noncomputable def pToldI (z : Int) (r : List Eqn) : List ByteArray := if mayB z r = true then toldFrom (pEnd z r).2.2 (pEnd z r).2.1 else []
noncomputable def pTold : Int → List Eqn → List ByteArray := Classical.choose (⟨pToldI, rfl⟩ : ∃ f, f = pToldI)
theorem pTold_eq : pTold = pToldI := Classical.choose_spec (⟨pToldI, rfl⟩ : ∃ f, f = pToldI)
noncomputable def pLeftI (z : Int) (r : List Eqn) : List Eqn := if mayB z r = true then (pEnd z r).1.filter leftB else []
noncomputable def pLeft : Int → List Eqn → List Eqn := Classical.choose (⟨pLeftI, rfl⟩ : ∃ f, f = pLeftI)
theorem pLeft_eq : pLeft = pLeftI := Classical.choose_spec (⟨pLeftI, rfl⟩ : ∃ f, f = pLeftI)
noncomputable def kOf (r : List Eqn) : Int := if r.length = 0 then 1 else (r.headD noE).1.1
noncomputable def rtEI (r : List Eqn) : Bool := r.all fun e => okW e.1.2 && rtS e.1.1 e.1.2
noncomputable def rtE : List Eqn → Bool := Classical.choose (⟨rtEI, rfl⟩ : ∃ f, f = rtEI)
theorem rtE_eq : rtE = rtEI := Classical.choose_spec (⟨rtEI, rfl⟩ : ∃ f, f = rtEI)
noncomputable def allI (r : List Eqn) (i : Int) (s : ByteArray) : Bool := decide (r.length ≤ 1000) && decide (0 ≤ i) && decide (s.size ≤ 64) && r.all fun e => okW e.1.2 && rtS e.1.1 e.1.2 && decide (i < e.1.1) && decide (e.2.size = s.size)
noncomputable def allOk : List Eqn → Int → ByteArray → Bool := Classical.choose (⟨allI, rfl⟩ : ∃ f, f = allI)
theorem allOk_eq : allOk = allI := Classical.choose_spec (⟨allI, rfl⟩ : ∃ f, f = allI)
def putA : List Int → Int → List Int
  | [], i => [i]
  | x :: t, i => if x > i then i :: x :: t else x :: putA t i
def putT : List Int → List ByteArray → Int → ByteArray → List ByteArray
  | x :: t, y :: u, i, s => if x > i then s :: y :: u else y :: putT t u i s
  | _, _, _, s => [s]
def shEI (a : List Eqn) : Bool := decide (a.length ≤ 1000000) && a.all fun e => decide (e.1.2.length ≤ 1000000)
noncomputable def shE : List Eqn → Bool := Classical.choose (⟨shEI, rfl⟩ : ∃ f, f = shEI)
theorem shE_eq : shE = shEI := Classical.choose_spec (⟨shEI, rfl⟩ : ∃ f, f = shEI)
noncomputable def eqEI (a b : List Eqn) : Bool := decide (a = b)
noncomputable def eqE : List Eqn → List Eqn → Bool := Classical.choose (⟨eqEI, rfl⟩ : ∃ f, f = eqEI)
theorem eqE_eq : eqE = eqEI := Classical.choose_spec (⟨eqEI, rfl⟩ : ∃ f, f = eqEI)
def fewEI (r : List Eqn) : List Eqn := (r.take 66).map fun e => ((e.1.1, e.1.2.take 3), e.2.extract 0 (min e.2.size 66))
noncomputable def fewES : List Eqn → List Eqn := Classical.choose (⟨fewEI, rfl⟩ : ∃ f, f = fewEI)
theorem fewES_eq : fewES = fewEI := Classical.choose_spec (⟨fewEI, rfl⟩ : ∃ f, f = fewEI)
def mode12 : FuncId → Nat := fun f => bif Nat.beq f 95 then 2 else bif Nat.beq f 96 then 2 else 0
/-! downpour/peel.one -/
noncomputable def oneF_s1 {R : Type} (ws : List Int) (n : Int) (s : ByteArray) (c0 : Int → Option R) : Option R :=
  grd (okW ws) <|
  br (((if rtS n ws = true then (((plS ws).length : Nat) : Int) else 0) : Int) != 1)
    (c0 (-1))
    (grd (okW ws) <|
    c0 (fstS n ws))
theorem oneF_s1_eq (fuel : Nat)  (ws : List Int) (n : Int) (s : ByteArray) : callN Tryd.prog mode12 T_Pick fuel 98 [.agg [vI n, vW ws, vS s]] [] = oneF_s1 ws n s (fun a1 => some (vI a1, [])) := by kernel_rfl
noncomputable def oneF {R : Type} (fuel : Nat) (n : Int) (ws : List Int) (s : ByteArray) (r0 : Int → Option R) : Option R :=
  (oneF_s1 ws n s (fun a1 => r0 a1))
theorem oneF_eq (fuel : Nat) (n : Int) (ws : List Int) (s : ByteArray) : callN Tryd.prog mode12 T_Pick fuel 98 [.agg [.s (.int .i64 n), .li .u64 ws, .s (.string s)]] [] = oneF fuel n ws s (fun z0 => some (.s (.int .i64 z0), [])) := by
  unfold oneF
  exact (oneF_s1_eq fuel  ws n s)
theorem one_fact (n : Int) (ws : List Int) (s : ByteArray) (hg : (okW ws) = true) : Fact Tryd.prog gTab 98 [.agg [.s (.int .i64 n), .li .u64 ws, .s (.string s)]] [] (.s (.int .i64 (oneS n ws)), []) := by
  refine callN_fact hN hM T_Pick_ok (n := 0) (mode := mode12) ?_
  rw [oneF_eq]
  unfold oneF oneF_s1
  rw [grd_of hg, br_if, oneS_eq]
  unfold oneI
  by_cases h : rtS n ws = true
  · rw [if_pos h]
    by_cases h1 : (plS ws).length = 1
    · rw [if_neg (by simp [h1]), grd_of hg, if_pos ⟨h, h1⟩, fstS_eq]
      unfold fstI
      rw [if_pos h]
    · rw [if_pos (by simp; omega), if_neg (fun g => h1 g.2)]
  · rw [if_neg h, if_pos (by decide), if_neg (fun g => h g.1)]
noncomputable def one_ent : List V → List Blk → Option (Bool × Out)
  | [.agg [.s (.int .i64 n), w0, .s (.string s)]], [] => (asSl (.int .u64) w0).bind fun ws => some ((okW ws), (.s (.int .i64 (oneS n ws)), []))
  | _, _ => none
theorem one_ok : ∀ args bs out, one_ent args bs = some (true, out) → Fact Tryd.prog gTab 98 args bs out := by
  intro args bs out h
  unfold one_ent at h
  split at h
  · rename_i n w0 s
    obtain ⟨ws, h_ws, h⟩ := Option.bind_eq_some_iff.1 h
    simp only [Option.some.injEq, Prod.mk.injEq] at h
    obtain ⟨hg, rfl⟩ := h
    exact (one_fact n ws s hg).args (fun _ _ _ => fun _ h => RVs_two (fun _ h => RV_agg_two (fun _ h => RVs_two (fun _ h => h) (fun _ h => RVs_two (fun _ h => RV_li h_ws h) (fun _ h => h) h) h) h) (fun _ h => h) h)
  · cases h
noncomputable def T_one : Tbl := Tbl.cons 98 one_ent T_Pick
theorem T_one_ok : CallOk Tryd.prog gTab T_one := cons_ok T_Pick_ok one_ok
/-! downpour/peel.may -/
noncomputable abbrev qc0 (fuel : Nat) : Ctx Out := (fnX Tryd.prog mode12 T_one fuel 53 0)
noncomputable abbrev qc1 : Code := (sub (bodyOf Tryd.prog 94) [1, 1, 0, 1, 0, 0])
noncomputable def pmayF_s2 {R : Type} (w7 w8 : Int) (r : List ((Int × List Int) × ByteArray)) (z : Int) (c0 c1 c2 c3 : Option R) (c4 : Int → Int → Option R) (c5 : Option R) : Option R :=
  br (decide (w7 < w8))
    (bnd (ix r w7) fun e0 =>
    br (e0.1.1 != z)
      (c0)
      (grd (okW e0.1.2) <|
      br (!(rtS e0.1.1 e0.1.2))
        (c1)
        (bnd (ix r 0) fun e1 =>
        br ((((e0.2.size : Nat) : Int) : Int) != ((e1.2.size : Nat) : Int))
          (c2)
          (br (decide ((((e0.2.size : Nat) : Int) : Int) > 64))
            (c3)
            (c4 w8 (IntKind.i64.wrap (w7 + 1)))))))
    (c5)
theorem pmayF_s2_eq (fuel k : Nat) (K : Ex → St → Option Out) (w7 w8 : Int) (r : List ((Int × List Int) × ByteArray)) (z : Int) : lpN qc1 (qc0 fuel) 16 [0, 1, 4, 18, 19, 20] (k + 1) ⟨[(0, vI z), (1, .lt (.pair (.pair (.int .i64) (.sl (.int .u64))) .str) r), (4, vI 0), (18, .lt (.pair (.pair (.int .i64) (.sl (.int .u64))) .str) r), (19, vI w8), (20, vI w7)], [], 0, none⟩ K = pmayF_s2 w7 w8 r z (K .ret ⟨[(4, vI 1)], [], 0, none⟩) (K .ret ⟨[(4, vI 1)], [], 0, none⟩) (K .ret ⟨[(4, vI 1)], [], 0, none⟩) (K .ret ⟨[(4, vI 1)], [], 0, none⟩) (fun a0 a1 => lpN qc1 (qc0 fuel) 16 [0, 1, 4, 18, 19, 20] k ⟨[(0, vI z), (1, .lt (.pair (.pair (.int .i64) (.sl (.int .u64))) .str) r), (4, vI 0), (18, .lt (.pair (.pair (.int .i64) (.sl (.int .u64))) .str) r), (19, vI a0), (20, vI a1)], [], 0, none⟩ K) (K (.exit 0) ⟨[(4, vI 0)], [], 0, none⟩) := by kernel_rfl
noncomputable def pmayF_l1 {R : Type} (fuel : Nat) (z : Int) (r : List ((Int × List Int) × ByteArray)) (k0 k1 : Option R) : Nat → Int → Int → Option R
  | 0, _, _ => none
  | k + 1, w8, w7 =>
    (pmayF_s2 w7 w8 r z (k0) (k0) (k0) (k0) (fun a0 a1 => ( pmayF_l1 fuel z r k0 k1 k a0 a1 )) (k1))
theorem pmayF_l1_eq (fuel : Nat) (z : Int) (r : List ((Int × List Int) × ByteArray)) (K : Ex → St → Option Out) : ∀ (k : Nat) (w8 w7 : Int), lpN qc1 (qc0 fuel) 16 [0, 1, 4, 18, 19, 20] k ⟨[(0, vI z), (1, .lt (.pair (.pair (.int .i64) (.sl (.int .u64))) .str) r), (4, vI 0), (18, .lt (.pair (.pair (.int .i64) (.sl (.int .u64))) .str) r), (19, vI w8), (20, vI w7)], [], 0, none⟩ K = pmayF_l1 fuel z r (K .ret ⟨[(4, vI 1)], [], 0, none⟩) (K (.exit 0) ⟨[(4, vI 0)], [], 0, none⟩) k w8 w7
  | 0, _, _ => rfl
  | k + 1, w8, w7 => by
    unfold pmayF_l1
    exact (pmayF_s2_eq fuel k K w7 w8 r z).trans (congr (congr (congr (congr (congr (congr (Eq.refl (pmayF_s2 (R := Out) w7 w8 r z)) (rfl)) (rfl)) (rfl)) (rfl)) (funext fun a0 => funext fun a1 => pmayF_l1_eq fuel z r K k a0 a1)) (rfl))
noncomputable def pmayF_s3 {R : Type}  (c0 : Int → Option R) : Option R :=
  c0 1
theorem pmayF_s3_eq (fuel : Nat)   : (kont (qc0 fuel) (bodyOf Tryd.prog 94) [1, 1, 0, 1, 0] 16 (endK Tryd.prog 0 0 94)) .ret ⟨[(4, vI 1)], [], 0, none⟩ = pmayF_s3  (fun a0 => some (vI a0, [])) := by kernel_rfl
noncomputable def pmayF_s4 {R : Type}  (c0 : Int → Option R) : Option R :=
  c0 0
theorem pmayF_s4_eq (fuel : Nat)   : (kont (qc0 fuel) (bodyOf Tryd.prog 94) [1, 1, 0, 1, 0] 16 (endK Tryd.prog 0 0 94)) (.exit 0) ⟨[(4, vI 0)], [], 0, none⟩ = pmayF_s4  (fun a0 => some (vI a0, [])) := by kernel_rfl
noncomputable def pmayF_s1 {R : Type} (z : Int) (r : List ((Int × List Int) × ByteArray)) (c0 : Int → Option R) (c1 : Int → Int → Option R) : Option R :=
  br (decide (z < 1))
    (c0 1)
    (br (decide (z > 64))
      (c0 1)
      (br (decide ((((r.length : Nat) : Int) : Int) > 64))
        (c0 1)
        (c1 ((r.length : Nat) : Int) 0)))
theorem pmayF_s1_eq (fuel : Nat)  (z : Int) (r : List ((Int × List Int) × ByteArray)) : callN Tryd.prog mode12 T_one fuel 94 [vI z, .lt (.pair (.pair (.int .i64) (.sl (.int .u64))) .str) r] [] = pmayF_s1 z r (fun a1 => some (vI a1, [])) (fun a0 a2 => lpN qc1 (qc0 fuel) 16 [0, 1, 4, 18, 19, 20] fuel ⟨[(0, vI z), (1, .lt (.pair (.pair (.int .i64) (.sl (.int .u64))) .str) r), (4, vI 0), (18, .lt (.pair (.pair (.int .i64) (.sl (.int .u64))) .str) r), (19, vI a0), (20, vI a2)], [], 0, none⟩ (kont (qc0 fuel) (bodyOf Tryd.prog 94) [1, 1, 0, 1, 0] 16 (endK Tryd.prog 0 0 94))) := by kernel_rfl
noncomputable def pmayF {R : Type} (fuel : Nat) (z : Int) (r : List ((Int × List Int) × ByteArray)) (r0 : Int → Option R) : Option R :=
  (pmayF_s1 z r (fun a1 => r0 a1) (fun a0 a2 => (pmayF_l1 fuel z r ((pmayF_s3 (fun a3 => r0 a3))) ((pmayF_s4 (fun a4 => r0 a4))) fuel a0 a2)))
theorem pmayF_eq (fuel : Nat) (z : Int) (r : List ((Int × List Int) × ByteArray)) : callN Tryd.prog mode12 T_one fuel 94 [.s (.int .i64 z), .lt (.pair (.pair (.int .i64) (.sl (.int .u64))) .str) r] [] = pmayF fuel z r (fun z0 => some (.s (.int .i64 z0), [])) := by
  unfold pmayF
  exact (pmayF_s1_eq fuel  z r).trans (congr (congr (Eq.refl (pmayF_s1 (R := Out) z r)) (rfl)) (funext fun a0 => funext fun a1 => (pmayF_l1_eq fuel z r (kont (qc0 fuel) (bodyOf Tryd.prog 94) [1, 1, 0, 1, 0] 16 (endK Tryd.prog 0 0 94)) fuel a0 a1).trans (congrFun (congrFun (congrFun (congr (congr (Eq.refl (pmayF_l1 (R := Out) fuel z r)) ((pmayF_s3_eq fuel  ))) ((pmayF_s4_eq fuel  ))) fuel) a0) a1)))
theorem pmay_loop {R : Type} (fuel : Nat) (z : Int) (r : List Eqn) (hok : okE r = true) (hx : r.length ≤ 1000000) (k0 k1 : Option R) : ∀ (k j : Nat), j ≤ r.length → r.length < j + k → pmayF_l1 fuel z r k0 k1 k (r.length : Int) (j : Int) = if (∀ e, e ∈ r.drop j → e.1.1 = z ∧ rtS e.1.1 e.1.2 = true ∧ e.2.size = (r.headD noE).2.size ∧ e.2.size ≤ 64) then k1 else k0
  | 0, j, h1, h2 => by omega
  | k + 1, j, h1, h2 => by
    unfold pmayF_l1 pmayF_s2
    rw [br_if]
    by_cases hc : j < r.length
    · have h0 : ix r 0 = some (r.headD noE) := by
        cases r with
        | nil => simp at hc
        | cons e t => rfl
      have hw := okE_iff.1 hok _ (List.getElem_mem hc)
      rw [if_pos (by simpa using hc), bnd_of ((ix_nat r j).trans (List.getElem?_eq_getElem hc)), br_if, grd_of hw, br_if, bnd_of h0, br_if, br_if, List.drop_eq_getElem_cons hc, wrap_i64 (by omega) (by omega), show (j : Int) + 1 = ((j + 1 : Nat) : Int) by omega]
      dsimp only
      rw [pmay_loop fuel z r hok hx k0 k1 k (j + 1) (by omega) (by omega)]
      generalize r[j] = x
      generalize r.drop (j + 1) = t
      generalize (r.headD noE).2.size = q
      by_cases g : x.1.1 = z ∧ rtS x.1.1 x.1.2 = true ∧ x.2.size = q ∧ x.2.size ≤ 64
      · obtain ⟨g1, g2, g3, g4⟩ := g
        rw [if_neg (by simp [g1]), if_neg (by simp [g2]), if_neg (by simp [g3]), if_neg (by simp; omega)]
        by_cases ht : ∀ e, e ∈ t → e.1.1 = z ∧ rtS e.1.1 e.1.2 = true ∧ e.2.size = q ∧ e.2.size ≤ 64
        · rw [if_pos ht, if_pos fun e he => by
            rcases List.mem_cons.1 he with rfl | he
            · exact ⟨g1, g2, g3, g4⟩
            · exact ht e he]
        · rw [if_neg ht, if_neg fun h => ht fun e he => h e (List.mem_cons_of_mem _ he)]
      · have hn : ¬ ∀ e, e ∈ x :: t → e.1.1 = z ∧ rtS e.1.1 e.1.2 = true ∧ e.2.size = q ∧ e.2.size ≤ 64 := fun h => g (h x List.mem_cons_self)
        rw [if_neg hn]
        split
        · rfl
        · split
          · rfl
          · split
            · rfl
            · split
              · rfl
              · rename_i a1 a2 a3 a4
                exfalso
                simp at a1 a2 a3 a4
                exact g ⟨a1, a2, by omega, by omega⟩
    · rw [if_neg (by simpa using hc), List.drop_eq_nil_of_le (by omega)]
      simp
theorem pmay_fact (z : Int) (r : List ((Int × List Int) × ByteArray)) (hg : (okE r) = true) : Fact Tryd.prog gTab 94 [.s (.int .i64 z), .lt (.pair (.pair (.int .i64) (.sl (.int .u64))) .str) r] [] (.s (.int .i64 (if mayB z r = true then 0 else 1)), []) := by
  refine callN_fact hN hM T_one_ok (n := 66) (mode := mode12) ?_
  rw [pmayF_eq]
  unfold pmayF pmayF_s1
  have hno : ∀ h : ¬ mayB z r = true, mayB z r = false := fun h => by rw [Bool.eq_false_iff]; exact h
  rw [br_if]
  by_cases h0 : z < 1
  · rw [if_pos (by simpa using h0), hno fun h => by have := (mayB_iff.1 h).1; omega]; rfl
  · rw [if_neg (by simpa using h0), br_if]
    by_cases h1 : z > 64
    · rw [if_pos (by simpa using h1), hno fun h => by have := (mayB_iff.1 h).1; omega]; rfl
    · rw [if_neg (by simpa using h1), br_if]
      by_cases hx : r.length ≤ 64
      · rw [if_neg (by simp; omega)]
        dsimp only
        have := pmay_loop (R := Out) 66 z r hg (by omega)
        refine (this _ _ 66 0 (by omega) (by omega)).trans ?_
        rw [List.drop_zero]
        by_cases ha : ∀ e, e ∈ r → e.1.1 = z ∧ rtS e.1.1 e.1.2 = true ∧ e.2.size = (r.headD noE).2.size ∧ e.2.size ≤ 64
        · rw [if_pos ha, if_pos (mayB_iff.2 ⟨⟨by omega, by omega⟩, hx, ha⟩)]; rfl
        · rw [if_neg ha, hno fun h => ha (mayB_iff.1 h).2.2]; rfl
      · rw [if_pos (by simp; omega), hno fun h => hx (mayB_iff.1 h).2.1]; rfl
noncomputable def pmay_ent : List V → List Blk → Option (Bool × Out)
  | [.s (.int .i64 z), w0], [] => (asSl (.pair (.pair (.int .i64) (.sl (.int .u64))) .str) w0).bind fun r => some ((okE r), (.s (.int .i64 (if mayB z r = true then 0 else 1)), []))
  | _, _ => none
theorem pmay_ok : ∀ args bs out, pmay_ent args bs = some (true, out) → Fact Tryd.prog gTab 94 args bs out := by
  intro args bs out h
  unfold pmay_ent at h
  split at h
  · rename_i z w0
    obtain ⟨r, h_r, h⟩ := Option.bind_eq_some_iff.1 h
    simp only [Option.some.injEq, Prod.mk.injEq] at h
    obtain ⟨hg, rfl⟩ := h
    exact (pmay_fact z r hg).args (fun _ _ _ => fun _ h => RVs_two (fun _ h => h) (fun _ h => RVs_two (fun _ h => RV_sl (s := (.pair (.pair (.int .i64) (.sl (.int .u64))) .str)) h_r h) (fun _ h => h) h) h)
  · cases h
noncomputable def T_pmay : Tbl := Tbl.cons 94 pmay_ent T_one
theorem T_pmay_ok : CallOk Tryd.prog gTab T_pmay := cons_ok T_one_ok pmay_ok
/-! (*downpour/peel.work).ready$1 -/
noncomputable def ready1F_s1 {R : Type} (ws : List Int) (n : Int) (s : ByteArray) (c0 : Bool → Option R) : Option R :=
  grd (okW ws) <|
  c0 (decide (((oneS n ws) : Int) ≥ 0))
theorem ready1F_s1_eq (fuel : Nat)  (ws : List Int) (n : Int) (s : ByteArray) : callN Tryd.prog mode12 T_pmay fuel 142 [.agg [vI n, vW ws, vS s]] [] = ready1F_s1 ws n s (fun a1 => some (vB a1, [])) := by kernel_rfl
noncomputable def ready1F {R : Type} (fuel : Nat) (n : Int) (ws : List Int) (s : ByteArray) (r0 : Bool → Option R) : Option R :=
  (ready1F_s1 ws n s (fun a1 => r0 a1))
theorem ready1F_eq (fuel : Nat) (n : Int) (ws : List Int) (s : ByteArray) : callN Tryd.prog mode12 T_pmay fuel 142 [.agg [.s (.int .i64 n), .li .u64 ws, .s (.string s)]] [] = ready1F fuel n ws s (fun z0 => some (.s (.bool z0), [])) := by
  unfold ready1F
  exact (ready1F_s1_eq fuel  ws n s)
theorem ready1_fact (n : Int) (ws : List Int) (s : ByteArray) (hg : (okW ws) = true) : Fact Tryd.prog gTab 142 [.agg [.s (.int .i64 n), .li .u64 ws, .s (.string s)]] [] (.s (.bool (decide (0 ≤ oneS n ws))), []) := by
  refine callN_fact hN hM T_pmay_ok (n := 0) (mode := mode12) ?_
  rw [ready1F_eq]
  unfold ready1F ready1F_s1
  rw [grd_of hg]
noncomputable def ready1_ent : List V → List Blk → Option (Bool × Out)
  | [.agg [.s (.int .i64 n), w0, .s (.string s)]], [] => (asSl (.int .u64) w0).bind fun ws => some ((okW ws), (.s (.bool (decide (0 ≤ oneS n ws))), []))
  | _, _ => none
theorem ready1_ok : ∀ args bs out, ready1_ent args bs = some (true, out) → Fact Tryd.prog gTab 142 args bs out := by
  intro args bs out h
  unfold ready1_ent at h
  split at h
  · rename_i n w0 s
    obtain ⟨ws, h_ws, h⟩ := Option.bind_eq_some_iff.1 h
    simp only [Option.some.injEq, Prod.mk.injEq] at h
    obtain ⟨hg, rfl⟩ := h
    exact (ready1_fact n ws s hg).args (fun _ _ _ => fun _ h => RVs_two (fun _ h => RV_agg_two (fun _ h => RVs_two (fun _ h => h) (fun _ h => RVs_two (fun _ h => RV_li h_ws h) (fun _ h => h) h) h) h) (fun _ h => h) h)
  · cases h
noncomputable def T_ready1 : Tbl := Tbl.cons 142 ready1_ent T_pmay
theorem T_ready1_ok : CallOk Tryd.prog gTab T_ready1 := cons_ok T_pmay_ok ready1_ok
/-! slices.IndexFunc[[]downpour/api.Equation,downpour/api.Equation] -/
noncomputable abbrev qc2 (fuel : Nat) : Ctx Out := (fnX Tryd.prog mode12 T_ready1 fuel 19 0)
noncomputable abbrev qc3 : Code := (bodyOf Tryd.prog 141)
noncomputable def idxEF_s2 {R : Type} (w3 w4 : Int) (r : List ((Int × List Int) × ByteArray)) (c0 : Int → Option R) (c1 : Int → Int → Option R) (c2 : Option R) : Option R :=
  br (decide (w3 < w4))
    (bnd (ix r w3) fun e7 =>
    grd (okW e7.1.2) <|
    br (decide (0 ≤ oneS e7.1.1 e7.1.2))
      (c0 w3)
      (c1 w4 (IntKind.i64.wrap (w3 + 1))))
    (c2)
theorem idxEF_s2_eq (fuel k : Nat) (K : Ex → St → Option Out) (w3 w4 : Int) (r : List ((Int × List Int) × ByteArray)) : lpN (sub qc3 [1, 0, 1, 0, 0]) (qc2 fuel) 16 [0, 1, 4, 7, 8] (k + 1) ⟨[(0, .lt (.pair (.pair (.int .i64) (.sl (.int .u64))) .str) r), (1, .fn (.func 142) [] []), (4, vI 0), (7, vI w4), (8, vI w3)], [], 0, none⟩ K = idxEF_s2 w3 w4 r (fun a8 => K .ret ⟨[(4, vI a8)], [], 0, none⟩) (fun a9 a0 => lpN (sub qc3 [1, 0, 1, 0, 0]) (qc2 fuel) 16 [0, 1, 4, 7, 8] k ⟨[(0, .lt (.pair (.pair (.int .i64) (.sl (.int .u64))) .str) r), (1, .fn (.func 142) [] []), (4, vI 0), (7, vI a9), (8, vI a0)], [], 0, none⟩ K) (K (.exit 0) ⟨[(4, vI 0)], [], 0, none⟩) := by kernel_rfl
noncomputable def idxEF_l1 {R : Type} (fuel : Nat) (r : List ((Int × List Int) × ByteArray)) (k0 : Int → Option R) (k1 : Option R) : Nat → Int → Int → Option R
  | 0, _, _ => none
  | k + 1, w4, w3 =>
    (idxEF_s2 w3 w4 r (fun a8 => k0 a8) (fun a9 a0 => ( idxEF_l1 fuel r k0 k1 k a9 a0 )) (k1))
theorem idxEF_l1_eq (fuel : Nat) (r : List ((Int × List Int) × ByteArray)) (K : Ex → St → Option Out) : ∀ (k : Nat) (w4 w3 : Int), lpN (sub qc3 [1, 0, 1, 0, 0]) (qc2 fuel) 16 [0, 1, 4, 7, 8] k ⟨[(0, .lt (.pair (.pair (.int .i64) (.sl (.int .u64))) .str) r), (1, .fn (.func 142) [] []), (4, vI 0), (7, vI w4), (8, vI w3)], [], 0, none⟩ K = idxEF_l1 fuel r (fun y6 => K .ret ⟨[(4, vI y6)], [], 0, none⟩) (K (.exit 0) ⟨[(4, vI 0)], [], 0, none⟩) k w4 w3
  | 0, _, _ => rfl
  | k + 1, w4, w3 => by
    unfold idxEF_l1
    exact (idxEF_s2_eq fuel k K w3 w4 r).trans (congr (congr (congr (Eq.refl (idxEF_s2 (R := Out) w3 w4 r)) (rfl)) (funext fun a9 => funext fun a0 => idxEF_l1_eq fuel r K k a9 a0)) (rfl))
noncomputable def idxEF_s3 {R : Type} (x0 : Int) (c0 : Int → Option R) : Option R :=
  c0 x0
theorem idxEF_s3_eq (fuel : Nat)  (x0 : Int) : (kont (qc2 fuel) qc3 [1, 0, 1, 0] 16 (endK Tryd.prog 0 0 141)) .ret ⟨[(4, vI x0)], [], 0, none⟩ = idxEF_s3 x0 (fun a0 => some (vI a0, [])) := by kernel_rfl
noncomputable def idxEF_s4 {R : Type}  (c0 : Int → Option R) : Option R :=
  c0 (-1)
theorem idxEF_s4_eq (fuel : Nat)   : (kont (qc2 fuel) qc3 [1, 0, 1, 0] 16 (endK Tryd.prog 0 0 141)) (.exit 0) ⟨[(4, vI 0)], [], 0, none⟩ = idxEF_s4  (fun a0 => some (vI a0, [])) := by kernel_rfl
noncomputable def idxEF_s1 {R : Type} (r : List ((Int × List Int) × ByteArray)) (c0 : Int → Int → Option R) : Option R :=
  c0 ((r.length : Nat) : Int) 0
theorem idxEF_s1_eq (fuel : Nat)  (r : List ((Int × List Int) × ByteArray)) : callN Tryd.prog mode12 T_ready1 fuel 141 [.lt (.pair (.pair (.int .i64) (.sl (.int .u64))) .str) r, .fn (.func 142) [] []] [] = idxEF_s1 r (fun a0 a1 => lpN (sub qc3 [1, 0, 1, 0, 0]) (qc2 fuel) 16 [0, 1, 4, 7, 8] fuel ⟨[(0, .lt (.pair (.pair (.int .i64) (.sl (.int .u64))) .str) r), (1, .fn (.func 142) [] []), (4, vI 0), (7, vI a0), (8, vI a1)], [], 0, none⟩ (kont (qc2 fuel) qc3 [1, 0, 1, 0] 16 (endK Tryd.prog 0 0 141))) := by kernel_rfl
noncomputable def idxEF {R : Type} (fuel : Nat) (r : List ((Int × List Int) × ByteArray)) (r0 : Int → Option R) : Option R :=
  (idxEF_s1 r (fun a0 a1 => (idxEF_l1 fuel r (fun x0 => (idxEF_s3 x0 (fun a2 => r0 a2))) ((idxEF_s4 (fun a3 => r0 a3))) fuel a0 a1)))
theorem idxEF_eq (fuel : Nat) (r : List ((Int × List Int) × ByteArray)) : callN Tryd.prog mode12 T_ready1 fuel 141 [.lt (.pair (.pair (.int .i64) (.sl (.int .u64))) .str) r, .fn (.func 142) [] []] [] = idxEF fuel r (fun z0 => some (.s (.int .i64 z0), [])) := by
  unfold idxEF
  exact (idxEF_s1_eq fuel  r).trans (congr (Eq.refl (idxEF_s1 (R := Out) r)) (funext fun a0 => funext fun a1 => (idxEF_l1_eq fuel r (kont (qc2 fuel) qc3 [1, 0, 1, 0] 16 (endK Tryd.prog 0 0 141)) fuel a0 a1).trans (congrFun (congrFun (congrFun (congr (congr (Eq.refl (idxEF_l1 (R := Out) fuel r)) (funext fun x0 => (idxEF_s3_eq fuel  x0))) ((idxEF_s4_eq fuel  ))) fuel) a0) a1)))
theorem idxE_loop {R : Type} (fuel : Nat) (r : List Eqn) (hok : okE r = true) (hx : r.length ≤ 1000) (k0 : Int → Option R) (k1 : Option R) : ∀ (k j : Nat), j ≤ r.length → r.length < j + k → idxEF_l1 fuel r k0 k1 k (r.length : Int) (j : Int) = if stepFrom (r.drop j) (j : Int) < 0 then k1 else k0 (stepFrom (r.drop j) (j : Int))
  | 0, j, h1, h2 => by omega
  | k + 1, j, h1, h2 => by
    unfold idxEF_l1 idxEF_s2
    rw [br_if]
    by_cases hc : j < r.length
    · have hw := okE_iff.1 hok _ (List.getElem_mem hc)
      rw [if_pos (by simpa using hc), bnd_of ((ix_nat r j).trans (List.getElem?_eq_getElem hc)), grd_of hw, br_if, List.drop_eq_getElem_cons hc, stepFrom, wrap_i64 (by omega) (by omega), show (j : Int) + 1 = ((j + 1 : Nat) : Int) by omega]
      dsimp only
      rw [idxE_loop fuel r hok hx k0 k1 k (j + 1) (by omega) (by omega)]
      by_cases h : 0 ≤ oneS (r[j]).1.1 (r[j]).1.2
      · rw [if_pos (by simpa using h), if_pos h, if_neg (by omega)]
      · rw [if_neg (by simpa using h), if_neg h]
    · rw [if_neg (by simpa using hc), List.drop_eq_nil_of_le (by omega)]
      rfl
theorem idxE_fact (r : List ((Int × List Int) × ByteArray)) (hg : (okE r && decide (List.length (α := Eqn) r ≤ 1000)) = true) : Fact Tryd.prog gTab 141 [.lt (.pair (.pair (.int .i64) (.sl (.int .u64))) .str) r, .fn (.func 142) [] []] [] (.s (.int .i64 (stepS r)), []) := by
  rw [Bool.and_eq_true] at hg
  obtain ⟨hok, hx⟩ := hg
  have hx := of_decide_eq_true hx
  refine callN_fact hN hM T_ready1_ok (n := 1001) (mode := mode12) ?_
  rw [idxEF_eq]
  unfold idxEF idxEF_s1
  dsimp only
  have := idxE_loop (R := Out) 1001 r hok hx
  refine (this _ _ 1001 0 (by omega) (by omega)).trans ?_
  rw [List.drop_zero, stepS_eq]
  unfold stepI idxEF_s3 idxEF_s4
  rw [show ((0 : Nat) : Int) = 0 from rfl]
  by_cases h : stepFrom r 0 < 0
  · have hm : ∀ (t : List Eqn) (j : Int), 0 ≤ j → stepFrom t j < 0 → stepFrom t j = -1 := by
      intro t
      induction t with
      | nil => intro j _ _; rfl
      | cons e t ih =>
        intro j hj hs
        rw [stepFrom] at hs ⊢
        split at hs
        · omega
        · rename_i hn
          rw [if_neg hn]
          exact ih (j + 1) (by omega) hs
    rw [if_pos h, hm r 0 (by omega) h]
  · rw [if_neg h]
noncomputable def idxE_ent : List V → List Blk → Option (Bool × Out)
  | [w0, .fn (.func 142) [] []], [] => (asSl (.pair (.pair (.int .i64) (.sl (.int .u64))) .str) w0).bind fun r => some ((okE r && decide (List.length (α := Eqn) r ≤ 1000)), (.s (.int .i64 (stepS r)), []))
  | _, _ => none
theorem idxE_ok : ∀ args bs out, idxE_ent args bs = some (true, out) → Fact Tryd.prog gTab 141 args bs out := by
  intro args bs out h
  unfold idxE_ent at h
  split at h
  · rename_i w0
    obtain ⟨r, h_r, h⟩ := Option.bind_eq_some_iff.1 h
    simp only [Option.some.injEq, Prod.mk.injEq] at h
    obtain ⟨hg, rfl⟩ := h
    exact (idxE_fact r hg).args (fun _ _ _ => fun _ h => RVs_two (fun _ h => RV_sl (s := (.pair (.pair (.int .i64) (.sl (.int .u64))) .str)) h_r h) (fun _ h => h) h)
  · cases h
noncomputable def T_idxE : Tbl := Tbl.cons 141 idxE_ent T_ready1
theorem T_idxE_ok : CallOk Tryd.prog gTab T_idxE := cons_ok T_ready1_ok idxE_ok
/-! (*downpour/peel.work).out -/
noncomputable def outF_s1 {R : Type} (q : Int) (n1 : Nat) (r : List ((Int × List Int) × ByteArray)) (i : Int) (n2 n3 : Nat) (t : List ByteArray) (l : List Int) (s : ByteArray) (c0 : Nat → Nat → Nat → Nat → Nat → Nat → (List ((Int × List Int) × ByteArray)) → List ByteArray → List Int → Option R) : Option R :=
  bnd (below q n1) fun j1 =>
  bnd (r[(0 + j1)]?) fun e2 =>
  grd (okW e2.1.2) <|
  br (((getS e2.1.1 e2.1.2 i) : Int) == 0)
    (c0 0 n1 0 n2 0 n3 r t l)
    (grd (decide (([i]).length ≤ 1000000)) <|
    grd (okW e2.1.2 && okW (if ofOk e2.1.1 ([i]) = true then ofS e2.1.1 ([i]) else [])) <|
    bnd (below q n1) fun j0 =>
    bnd (r[(0 + j0)]?) fun e0 =>
    c0 0 n1 0 n2 0 n3 (r.set (0 + j0) (((xorN e2.1.1 e2.1.2 (if ofOk e2.1.1 ([i]) = true then e2.1.1 else 0) (if ofOk e2.1.1 ([i]) = true then ofS e2.1.1 ([i]) else [])), (xorW e2.1.1 e2.1.2 (if ofOk e2.1.1 ([i]) = true then e2.1.1 else 0) (if ofOk e2.1.1 ([i]) = true then ofS e2.1.1 ([i]) else []))), (xorT e2.2 s))) t l)
theorem outF_s1_eq (fuel : Nat)  (q : Int) (n1 : Nat) (r : List ((Int × List Int) × ByteArray)) (i : Int) (n2 n3 : Nat) (t : List ByteArray) (l : List Int) (s : ByteArray) : callN Tryd.prog mode12 T_idxE fuel 96 [.ptr 0 3 0 0, vI q, vI i, vS s] [⟨144, .agg [.sl 1 3 0 n1, .sl 2 1 0 n2, .sl 3 1 0 n3], true⟩, ⟨72, .lt (.pair (.pair (.int .i64) (.sl (.int .u64))) .str) r, true⟩, ⟨9, .ls t, true⟩, ⟨3, vL l, true⟩] = outF_s1 q n1 r i n2 n3 t l s (fun a3 a4 a5 a6 a7 a8 a9 a0 a1 => some (.tup [], [some ⟨144, .agg [.sl 1 3 a3 a4, .sl 2 1 a5 a6, .sl 3 1 a7 a8], true⟩, some ⟨72, .lt (.pair (.pair (.int .i64) (.sl (.int .u64))) .str) a9, true⟩, some ⟨9, .ls a0, true⟩, bL 3 a1])) := by kernel_rfl
noncomputable def outF {R : Type} (fuel : Nat) (q i : Int) (s : ByteArray) (n1 n2 n3 : Nat) (r : List ((Int × List Int) × ByteArray)) (t : List ByteArray) (l : List Int) (r0 : Nat → Nat → Nat → Nat → Nat → Nat → (List ((Int × List Int) × ByteArray)) → List ByteArray → List Int → Option R) : Option R :=
  (outF_s1 q n1 r i n2 n3 t l s (fun a3 a4 a5 a6 a7 a8 a9 a0 a1 => r0 a3 a4 a5 a6 a7 a8 a9 a0 a1))
theorem outF_eq (fuel : Nat) (q i : Int) (s : ByteArray) (n1 n2 n3 : Nat) (r : List ((Int × List Int) × ByteArray)) (t : List ByteArray) (l : List Int) : callN Tryd.prog mode12 T_idxE fuel 96 [.ptr 0 3 0 0, .s (.int .i64 q), .s (.int .i64 i), .s (.string s)] [⟨144, .agg [.sl 1 3 0 n1, .sl 2 1 0 n2, .sl 3 1 0 n3], true⟩, ⟨72, .lt (.pair (.pair (.int .i64) (.sl (.int .u64))) .str) r, true⟩, ⟨9, .ls t, true⟩, ⟨3, .li .i64 l, true⟩] = outF fuel q i s n1 n2 n3 r t l (fun z0 z1 z2 z3 z4 z5 z6 z7 z8 => some (.tup [], [some ⟨144, .agg [.sl 1 3 z0 z1, .sl 2 1 z2 z3, .sl 3 1 z4 z5], true⟩, some ⟨72, .lt (.pair (.pair (.int .i64) (.sl (.int .u64))) .str) z6, true⟩, some ⟨9, .ls z7, true⟩, some ⟨3, .li .i64 z8, true⟩])) := by
  unfold outF
  exact (outF_s1_eq fuel  q n1 r i n2 n3 t l s)
theorem out_fact (q : Int) (i : Int) (s : ByteArray) (n1 : Nat) (n2 : Nat) (n3 : Nat) (r : List ((Int × List Int) × ByteArray)) (t : List ByteArray) (l : List Int) (hg : (okE r && decide (0 ≤ q) && decide (q < (r.length : Int)) && decide (n1 = r.length)) = true) : Fact Tryd.prog gTab 96 [.ptr 0 3 0 0, .s (.int .i64 q), .s (.int .i64 i), .s (.string s)] [⟨144, .agg [.sl 1 3 0 n1, .sl 2 1 0 n2, .sl 3 1 0 n3], true⟩, ⟨72, .lt (.pair (.pair (.int .i64) (.sl (.int .u64))) .str) r, true⟩, ⟨9, .ls t, true⟩, ⟨3, .li .i64 l, true⟩] (.tup [], [some ⟨144, .agg [.sl 1 3 0 n1, .sl 2 1 0 n2, .sl 3 1 0 n3], true⟩, some ⟨72, .lt (.pair (.pair (.int .i64) (.sl (.int .u64))) .str) ((r.set (q).toNat (outE (r.getD (q).toNat noE) i s)) : List ((Int × List Int) × ByteArray)), true⟩, some ⟨9, .ls t, true⟩, some ⟨3, .li .i64 l, true⟩]) := by
  simp only [Bool.and_eq_true, decide_eq_true_eq] at hg
  obtain ⟨⟨⟨hok, h0⟩, h1⟩, rfl⟩ := hg
  obtain ⟨j, rfl⟩ : ∃ j : Nat, q = (j : Int) := ⟨q.toNat, by omega⟩
  have hj : j < r.length := by omega
  have hw := okE_iff.1 hok _ (List.getElem_mem hj)
  have eb : below (j : Int) r.length = some j := by rw [below_of (by omega) (by omega)]; rfl
  have eg : r.getD j noE = r[j] := by rw [List.getD_eq_getElem?_getD, List.getElem?_eq_getElem hj]; rfl
  have er : r[0 + j]? = some r[j] := by rw [Nat.zero_add]; exact List.getElem?_eq_getElem hj
  rw [Int.toNat_natCast, eg, outE_eq]
  unfold outI
  by_cases hz : getS (r[j]).1.1 (r[j]).1.2 i = 0
  · rw [if_pos hz, List.set_getElem_self]
    refine callN_fact hN hM T_idxE_ok (n := 0) (mode := mode12) ?_
    rw [outF_eq]
    unfold outF outF_s1
    rw [bnd_of eb, bnd_of er, grd_of hw, br_if, if_pos (by simp [hz])]
  · rw [if_neg hz]
    refine callN_fact hN hM T_idxE_ok (n := 0) (mode := mode12) ?_
    rw [outF_eq]
    unfold outF outF_s1
    rw [bnd_of eb, bnd_of er, grd_of hw, br_if, if_neg (by simp [hz]), grd_of (by simp), grd_of (by rw [hw, ok_of]; rfl), bnd_of eb, bnd_of er, Nat.zero_add]
noncomputable def out_ent : List V → List Blk → Option (Bool × Out)
  | [.ptr 0 3 0 0, .s (.int .i64 q), .s (.int .i64 i), .s (.string s)], [⟨144, .agg [.sl 1 3 0 n1, .sl 2 1 0 n2, .sl 3 1 0 n3], true⟩, ⟨72, .lt (.pair (.pair (.int .i64) (.sl (.int .u64))) .str) r, true⟩, ⟨9, .ls t, true⟩, ⟨3, .li .i64 l, true⟩] => some ((okE r && decide (0 ≤ q) && decide (q < (r.length : Int)) && decide (n1 = r.length)), (.tup [], [some ⟨144, .agg [.sl 1 3 0 n1, .sl 2 1 0 n2, .sl 3 1 0 n3], true⟩, some ⟨72, .lt (.pair (.pair (.int .i64) (.sl (.int .u64))) .str) ((r.set (q).toNat (outE (r.getD (q).toNat noE) i s)) : List ((Int × List Int) × ByteArray)), true⟩, some ⟨9, .ls t, true⟩, some ⟨3, .li .i64 l, true⟩]))
  | _, _ => none
theorem out_ok : ∀ args bs out, out_ent args bs = some (true, out) → Fact Tryd.prog gTab 96 args bs out := by
  intro args bs out h
  unfold out_ent at h
  split at h
  · rename_i q i s n1 n2 n3 r t l
    simp only [Option.some.injEq, Prod.mk.injEq] at h
    obtain ⟨hg, rfl⟩ := h
    exact out_fact q i s n1 n2 n3 r t l hg
  · cases h
noncomputable def T_out : Tbl := Tbl.cons 96 out_ent T_idxE
theorem T_out_ok : CallOk Tryd.prog gTab T_out := cons_ok T_idxE_ok out_ok
/-! slices.Clone[[]downpour/api.Equation,downpour/api.Equation] -/
noncomputable def cloneEF_s1 {R : Type} (r : List ((Int × List Int) × ByteArray)) (c0 : Nat → Nat → (List ((Int × List Int) × ByteArray)) → Option R) : Option R :=
  grd (Nat.blt 0 r.length) <|
  grd (okN (0 + r.length) 48) <|
  c0 0 r.length r
theorem cloneEF_s1_eq (fuel : Nat)  (r : List ((Int × List Int) × ByteArray)) : callN Tryd.prog mode12 T_out fuel 95 [.lt (.pair (.pair (.int .i64) (.sl (.int .u64))) .str) r] [] = cloneEF_s1 r (fun a1 a2 a3 => some (.sl 0 3 a1 a2, [some ⟨72, .lt (.pair (.pair (.int .i64) (.sl (.int .u64))) .str) a3, true⟩])) := by kernel_rfl
noncomputable def cloneEF {R : Type} (fuel : Nat) (r : List ((Int × List Int) × ByteArray)) (r0 : Nat → Nat → (List ((Int × List Int) × ByteArray)) → Option R) : Option R :=
  (cloneEF_s1 r (fun a1 a2 a3 => r0 a1 a2 a3))
theorem cloneEF_eq (fuel : Nat) (r : List ((Int × List Int) × ByteArray)) : callN Tryd.prog mode12 T_out fuel 95 [.lt (.pair (.pair (.int .i64) (.sl (.int .u64))) .str) r] [] = cloneEF fuel r (fun z0 z1 z2 => some (.sl 0 3 z0 z1, [some ⟨72, .lt (.pair (.pair (.int .i64) (.sl (.int .u64))) .str) z2, true⟩])) := by
  unfold cloneEF
  exact (cloneEF_s1_eq fuel  r)
theorem cloneE_fact (r : List ((Int × List Int) × ByteArray)) (hg : (decide (1 ≤ r.length) && decide (r.length ≤ 1000)) = true) : Fact Tryd.prog gTab 95 [.lt (.pair (.pair (.int .i64) (.sl (.int .u64))) .str) r] [] (.sl 0 3 0 r.length, [some ⟨72, .lt (.pair (.pair (.int .i64) (.sl (.int .u64))) .str) r, true⟩]) := by
  simp only [Bool.and_eq_true, decide_eq_true_eq] at hg
  refine callN_fact hN hM T_out_ok (n := 0) (mode := mode12) ?_
  rw [cloneEF_eq]
  unfold cloneEF cloneEF_s1
  rw [grd_of (by simp; omega), grd_of (okN_of (by omega) (by omega))]
noncomputable def cloneE_ent : List V → List Blk → Option (Bool × Out)
  | [w0], [] => (asSl (.pair (.pair (.int .i64) (.sl (.int .u64))) .str) w0).bind fun r => some ((decide (1 ≤ r.length) && decide (r.length ≤ 1000)), (.sl 0 3 0 r.length, [some ⟨72, .lt (.pair (.pair (.int .i64) (.sl (.int .u64))) .str) r, true⟩]))
  | _, _ => none
theorem cloneE_ok : ∀ args bs out, cloneE_ent args bs = some (true, out) → Fact Tryd.prog gTab 95 args bs out := by
  intro args bs out h
  unfold cloneE_ent at h
  split at h
  · rename_i w0
    obtain ⟨r, h_r, h⟩ := Option.bind_eq_some_iff.1 h
    simp only [Option.some.injEq, Prod.mk.injEq] at h
    obtain ⟨hg, rfl⟩ := h
    exact (cloneE_fact r hg).args (fun _ _ _ => fun _ h => RVs_two (fun _ h => RV_sl (s := (.pair (.pair (.int .i64) (.sl (.int .u64))) .str)) h_r h) (fun _ h => h) h)
  · cases h
noncomputable def T_cloneE : Tbl := Tbl.cons 95 cloneE_ent T_out
theorem T_cloneE_ok : CallOk Tryd.prog gTab T_cloneE := cons_ok T_out_ok cloneE_ok
/-! What peeling comes to. -/
noncomputable def zeros (l : List Int) : Nat := (l.filter fun x => decide (x ≠ 1)).length
theorem zeros_le (l : List Int) : zeros l ≤ l.length := List.length_filter_le _ _
theorem zeros_set : ∀ (l : List Int) (i : Nat), i < l.length → l.getD i 0 ≠ 1 → zeros (l.set i 1) + 1 = zeros l
  | [], i, h, _ => by simp at h
  | x :: t, 0, h, hx => by
    have hx : x ≠ 1 := hx
    unfold zeros
    rw [List.set_cons_zero, List.filter_cons_of_neg (by simp), List.filter_cons_of_pos (by simpa using hx)]
    rfl
  | x :: t, i + 1, h, hx => by
    have ih := zeros_set t i (by simpa using h) hx
    unfold zeros at ih ⊢
    rw [List.set_cons_succ]
    by_cases hc : x = 1
    · rw [List.filter_cons_of_neg (by simpa using hc), List.filter_cons_of_neg (by simpa using hc)]; exact ih
    · rw [List.filter_cons_of_pos (by simpa using hc), List.filter_cons_of_pos (by simpa using hc), List.length_cons, List.length_cons]; omega
theorem stepFrom_cases : ∀ (t : List Eqn) (j : Int), stepFrom t j = -1 ∨ ∃ q, ∃ h : q < t.length, stepFrom t j = j + (q : Int) ∧ 0 ≤ oneS (t[q]).1.1 (t[q]).1.2
  | [], j => .inl rfl
  | e :: t, j => by
    rw [stepFrom]
    by_cases h : 0 ≤ oneS e.1.1 e.1.2
    · rw [if_pos h]; exact .inr ⟨0, by simp, by simp, h⟩
    · rw [if_neg h]
      rcases stepFrom_cases t (j + 1) with h1 | ⟨q, h1, h2, h3⟩
      · exact .inl h1
      · exact .inr ⟨q + 1, by simp; omega, by rw [h2]; omega, h3⟩
theorem step_cases (r : List Eqn) : stepS r = -1 ∨ ∃ j, ∃ h : j < r.length, stepS r = (j : Int) ∧ 0 ≤ oneS (r[j]).1.1 (r[j]).1.2 := by
  rw [stepS_eq]; unfold stepI
  rcases stepFrom_cases r 0 with h | ⟨q, h1, h2, h3⟩
  · exact .inl h
  · exact .inr ⟨q, h1, by rw [h2]; omega, h3⟩
theorem one_spec {n : Int} {ws : List Int} (hok : okW ws = true) (h : 0 ≤ oneS n ws) : rtS n ws = true ∧ oneS n ws < n ∧ (val ws).testBit (oneS n ws).toNat = true := by
  rw [oneS_eq] at h ⊢
  unfold oneI at h ⊢
  split at h
  · rename_i hc
    obtain ⟨hr, hl⟩ := hc
    have hm : (plS ws).headD 0 ∈ plS ws := by
      cases hp : plS ws with
      | nil => rw [hp] at hl; simp at hl
      | cons x t => exact List.mem_cons_self
    rw [if_pos ⟨hr, hl⟩]
    rw [pl_plc hok hr] at hm ⊢
    obtain ⟨i, h1, h2, h3⟩ := (mem_plc _ _ _).1 hm
    rw [h3, Int.toNat_natCast]
    exact ⟨hr, by omega, h2⟩
  · omega
def PInv (z : Int) (r : List Eqn) (l : List Int) : Prop := (1 ≤ z ∧ z ≤ 64) ∧ l.length = z.toNat ∧ (∀ e, e ∈ r → e.1.1 = z ∧ okW e.1.2 = true ∧ rtS e.1.1 e.1.2 = true) ∧ ∀ j, j < z.toNat → l.getD j 0 = 1 → ∀ e, e ∈ r → (val e.1.2).testBit j = false
theorem PInv.okE {z : Int} {r : List Eqn} {l : List Int} (h : PInv z r l) : okE r = true := okE_iff.2 fun e he => (h.2.2.1 e he).2.1
theorem PInv.flag {z : Int} {r : List Eqn} {l : List Int} (h : PInv z r l) {j : Nat} (hj : j < r.length) (h0 : 0 ≤ oneS (r[j]).1.1 (r[j]).1.2) : oneS (r[j]).1.1 (r[j]).1.2 < z ∧ (oneS (r[j]).1.1 (r[j]).1.2).toNat < l.length ∧ l.getD (oneS (r[j]).1.1 (r[j]).1.2).toNat 0 ≠ 1 := by
  obtain ⟨hz, hl, hr, hb⟩ := h
  have hm := List.getElem_mem hj
  obtain ⟨g1, g2, g3⟩ := hr _ hm
  obtain ⟨a1, a2, a3⟩ := one_spec g2 h0
  have hlt : oneS (r[j]).1.1 (r[j]).1.2 < z := by rw [g1] at a2 ⊢; exact a2
  refine ⟨hlt, by omega, fun hc => ?_⟩
  have := hb _ (by omega) hc _ hm
  rw [a3] at this
  cases this
theorem set_getD1 (l : List Int) (i j : Nat) (hi : i < l.length) : (l.set i 1).getD j 0 = if i = j then 1 else l.getD j 0 := by
  rw [List.getD_eq_getElem?_getD, List.getElem?_set, List.getD_eq_getElem?_getD]
  by_cases h : i = j
  · subst h; rw [if_pos rfl, if_pos rfl, if_pos hi]; rfl
  · rw [if_neg h, if_neg h]
theorem PInv.step {z : Int} {r : List Eqn} {l : List Int} (h : PInv z r l) {i : Int} (s : ByteArray) (h0 : 0 ≤ i) (h1 : i < z) : PInv z (r.map fun e => outE e i s) (l.set i.toNat 1) := by
  obtain ⟨hz, hl, hr, hb⟩ := h
  refine ⟨hz, by rw [List.length_set]; exact hl, fun e he => ?_, fun j hj hc e he => ?_⟩
  · obtain ⟨e0, he0, rfl⟩ := List.mem_map.1 he
    obtain ⟨g1, g2, g3⟩ := hr e0 he0
    obtain ⟨⟨n, ws⟩, t⟩ := e0
    have g1 : n = z := g1
    subst g1
    have := out_spec (t := t) (s := s) g2 g3 h0 h1
    refine ⟨this.1, this.2.1, ?_⟩
    rw [this.1]; exact this.2.2.1
  · obtain ⟨e0, he0, rfl⟩ := List.mem_map.1 he
    obtain ⟨g1, g2, g3⟩ := hr e0 he0
    have hbj := hb j hj
    obtain ⟨⟨n, ws⟩, t⟩ := e0
    have g1 : n = z := g1
    subst g1
    have := out_spec (t := t) (s := s) g2 g3 h0 h1
    rw [this.2.2.2.1 j]
    rw [set_getD1 _ _ _ (by omega)] at hc
    by_cases hij : i.toNat = j
    · subst hij; simp
    · rw [if_neg hij] at hc
      rw [hbj hc _ he0]; rfl
theorem getD_eqn {r : List Eqn} {j : Nat} (h : j < r.length) : r.getD j noE = r[j] := by rw [List.getD_eq_getElem?_getD, List.getElem?_eq_getElem h]; rfl
theorem peel_stop {f : Nat} {r : List Eqn} {t : List ByteArray} {l : List Int} (h : stepS r < 0) : peelN f r t l = (r, t, l) := by
  cases f with
  | zero => rfl
  | succ f => rw [peelN, if_pos h]
theorem mix_get {r : List Eqn} (f : Eqn → Eqn) {j : Nat} (h : j < r.length) : ((r.take j).map f ++ r.drop j).getD j noE = r[j] := by
  have h1 : ((r.take j).map f).length = j := by rw [List.length_map, List.length_take]; omega
  rw [List.getD_eq_getElem?_getD, List.getElem?_append_right (by omega), h1, Nat.sub_self, List.drop_eq_getElem_cons h]
  rfl
theorem mix_set {r : List Eqn} (f : Eqn → Eqn) {j : Nat} (h : j < r.length) : ((r.take j).map f ++ r.drop j).set j (f r[j]) = (r.take (j + 1)).map f ++ r.drop (j + 1) := by
  have h1 : ((r.take j).map f).length = j := by rw [List.length_map, List.length_take]; omega
  rw [List.drop_eq_getElem_cons h, List.set_append_right _ _ (by omega), h1, Nat.sub_self, List.set_cons_zero, List.take_succ_eq_append_getElem h, List.map_append, List.append_assoc]
  rfl
theorem mix_len {r : List Eqn} (f : Eqn → Eqn) {j : Nat} (h : j ≤ r.length) : ((r.take j).map f ++ r.drop j).length = r.length := by
  rw [List.length_append, List.length_map, List.length_take, List.length_drop]; omega
theorem places_len : ∀ (l : List Int) (t : List ByteArray) (j : Int), t.length = l.length → (toldFrom l t).length = (placesFrom l j).length
  | [], t, j, h => by cases t <;> rfl
  | x :: l, [], j, h => by simp at h
  | x :: l, y :: t, j, h => by
    rw [toldFrom, placesFrom]
    have ih := places_len l t (j + 1) (by simpa using h)
    by_cases hx : x = 1
    · rw [if_pos hx, if_pos hx, List.length_cons, List.length_cons, ih]
    · rw [if_neg hx, if_neg hx, ih]
theorem places_le : ∀ (l : List Int) (j : Int), (placesFrom l j).length ≤ l.length
  | [], j => Nat.le_refl _
  | x :: l, j => by
    rw [placesFrom]
    have := places_le l (j + 1)
    split <;> simp <;> omega
theorem pinv_start {z : Int} {r : List Eqn} (hok : okE r = true) (hm : mayB z r = true) : PInv z r (List.replicate z.toNat 0) := by
  obtain ⟨hz, hl, hr⟩ := mayB_iff.1 hm
  refine ⟨hz, by simp, fun e he => ⟨(hr e he).1, okE_iff.1 hok e he, (hr e he).2.1⟩, fun j hj hc => ?_⟩
  rw [List.getD_eq_getElem?_getD, List.getElem?_replicate, if_pos hj] at hc
  cases hc
theorem peel_end {z : Int} : ∀ {f : Nat} {r : List Eqn} {t : List ByteArray} {l : List Int}, PInv z r l → t.length = z.toNat → PInv z (peelN f r t l).1 (peelN f r t l).2.2 ∧ (peelN f r t l).1.length = r.length ∧ (peelN f r t l).2.1.length = z.toNat
  | 0, r, t, l, h, ht => ⟨h, rfl, ht⟩
  | f + 1, r, t, l, h, ht => by
    rcases step_cases r with hs | ⟨j, hj, hs, h0⟩
    · rw [peel_stop (by rw [hs]; decide)]; exact ⟨h, rfl, ht⟩
    · obtain ⟨a1, a2, a3⟩ := h.flag hj h0
      rw [peelN, if_neg (by rw [hs]; simp), hs, Int.toNat_natCast, getD_eqn hj]
      have := peel_end (f := f) (t := t.set (oneS (r[j]).1.1 (r[j]).1.2).toNat (r[j]).2) (h.step (r[j]).2 h0 a1) (by rw [List.length_set]; exact ht)
      rw [List.length_map] at this
      exact this
theorem peel_sizes {z : Int} {q : Nat} : ∀ {f : Nat} {r : List Eqn} {t : List ByteArray} {l : List Int}, PInv z r l → q ≤ 64 → (∀ e, e ∈ r → e.2.size = q) → ∀ e, e ∈ (peelN f r t l).1 → e.2.size ≤ 64
  | 0, r, t, l, h, hq, hs, e, he => by have := hs e he; omega
  | f + 1, r, t, l, h, hq, hz, e, he => by
    rcases step_cases r with hs | ⟨j, hj, hs, h0⟩
    · rw [peel_stop (by rw [hs]; decide)] at he; have := hz e he; omega
    · obtain ⟨a1, a2, a3⟩ := h.flag hj h0
      rw [peelN, if_neg (by rw [hs]; simp), hs, Int.toNat_natCast, getD_eqn hj] at he
      refine peel_sizes (f := f) (h.step (r[j]).2 h0 a1) hq (fun e he => ?_) e he
      obtain ⟨e0, he0, rfl⟩ := List.mem_map.1 he
      obtain ⟨g1, g2, g3⟩ := h.2.2.1 e0 he0
      have hz0 := hz e0 he0
      have hzj := hz _ (List.getElem_mem hj)
      obtain ⟨⟨n, ws⟩, u⟩ := e0
      have g1 : n = z := g1
      subst g1
      have := (out_spec (t := u) (s := (r[j]).2) g2 g3 h0 a1).2.2.2.2
      rw [this]
      have hz0 : u.size = q := hz0
      split
      · rw [xorT_size (by omega) (by omega)]; exact hz0
      · exact hz0
/-! downpour/peel.Peel -/
noncomputable abbrev qc4 : Nat × Option Blk := (0, some ⟨74, .agg [vN, vN, vN], true⟩)
noncomputable abbrev qc5 (fuel : Nat) : Ctx Out := (fnX Tryd.prog mode12 T_cloneE fuel 145 0)
noncomputable abbrev qc6 : List (Nat × V) := [(4, .ptr 0 3 0 0), (5, vI 0), (7, .ptr 1 1 0 0), (8, .ptr 6 1 0 0), (38, .fn (.func 97) [.ptr 2 3 0 0] [])]
noncomputable abbrev qc7 : Code := (bodyOf Tryd.prog 41)
noncomputable abbrev qc8 : Nat × Option Blk := (1, some ⟨141, .agg [.ptr 2 3 0 0], true⟩)
noncomputable abbrev qc9 : Nat × Option Blk := (6, some ⟨145, .agg [.fn (.func 96) [.ptr 2 3 0 0] []], true⟩)
noncomputable abbrev qc10 : Nat := 22300745198530623141535718272648361505988656
noncomputable abbrev qc11 : Code := (sub qc7 [1, 1, 1, 1, 1, 1, 1, 0, 1, 0, 0])
noncomputable abbrev qc12 : Code := (sub qc7 [1, 1, 1, 1, 0, 1, 0, 1])
noncomputable abbrev qc13 : Nat × V := (4, .ptr 0 3 0 0)
noncomputable abbrev qc14 : Nat × V := (13, .ptr 1 3 0 0)
noncomputable abbrev qc15 : Code := (sub qc7 [1, 1, 1, 1, 0, 1, 0, 0])
noncomputable abbrev qc16 : List Nat := [4, 5, 13, 117, 118, 119]
noncomputable abbrev qc17 : Code := (sub (bodyOf Tryd.prog 97) [0, 0])
noncomputable abbrev qc18 : Nat := 44601490376292058848932126031174737695482032
noncomputable abbrev qc19 : Nat := 7253554917686675536617344
noncomputable abbrev qc20 : Code := (sub qc7 [1, 1, 1, 1, 1, 1, 0, 1, 0, 0])
noncomputable abbrev qc21 : Nat × Option Blk := (6, some ⟨74, .agg [vN, vN, vN], true⟩)
noncomputable abbrev qc22 : Nat × Option Blk := (1, some ⟨74, .agg [vN, vN, vN], true⟩)
noncomputable abbrev qc23 : Nat × V := (13, .ptr 6 3 0 0)
noncomputable abbrev qc24 : Nat × V := (7, .ptr 1 1 0 0)
noncomputable abbrev qc25 : List Nat := [1, 1, 1, 1, 1, 1, 1, 0, 1, 0]
noncomputable abbrev qc26 : List Nat := [4, 5, 7, 13, 86, 87, 88]
noncomputable def PeelF_s3 {R : Type} (w0 w1 : Int) (w2 : List ((Int × List Int) × ByteArray)) (w3 : Nat) (w4 : Int) (w5 : ByteArray) (w6 : List ByteArray) (w7 : List Int) (n2 n3 : Nat) (c0 : Int → ByteArray → Int → Int → (List ((Int × List Int) × ByteArray)) → List ByteArray → List Int → Option R) (c1 : (List ((Int × List Int) × ByteArray)) → List ByteArray → List Int → Option R) : Option R :=
  br (decide (w0 < w1))
    (grd (okE w2 && decide (0 ≤ w0) && decide (w0 < (w2.length : Int)) && decide (w3 = w2.length)) <|
    c0 w4 w5 w1 (IntKind.i64.wrap (w0 + 1)) (w2.set (w0).toNat (outE (w2.getD (w0).toNat noE) w4 w5)) w6 w7)
    (c1 w2 w6 w7)
theorem PeelF_s3_eq (fuel k : Nat) (K : Ex → St → Option Out) (w0 w1 : Int) (w2 : List ((Int × List Int) × ByteArray)) (w3 : Nat) (w4 : Int) (w5 : ByteArray) (w6 : List ByteArray) (w7 : List Int) (n2 n3 : Nat) : lpN (sub qc12 [0, 1, 1, 1, 0, 0]) (rdX (qc5 fuel) 248) 0 [8, 10, 11, 73, 74] (k + 1) ⟨[(8, .ptr 6 1 0 0), (10, vI w4), (11, vS w5), (73, vI w1), (74, vI w0)], [qc4, qc8, (2, some ⟨144, .agg [.sl 3 3 0 w3, .sl 4 1 0 n2, .sl 5 1 0 n3], true⟩), (3, some ⟨72, .lt (.pair (.pair (.int .i64) (.sl (.int .u64))) .str) w2, true⟩), (4, some ⟨9, .ls w6, true⟩), (5, bL 3 w7), qc9, (7, none), (8, none), (9, none), (10, none), (11, none), (12, none), (13, none), (14, none), (15, none), (16, none), (17, none), (18, none), (19, none), (20, none), (21, none), (22, none), (23, none), (24, none), (25, none), (26, none), (27, none), (28, none), (29, none), (30, none), (31, none), (32, none), (33, none), (34, none), (35, none), (36, none), (37, none), (38, none), (39, none), (40, none), (41, none), (42, none), (43, none), (44, none), (45, none), (46, none), (47, none), (48, none), (49, none), (50, none), (51, none), (52, none), (53, none), (54, none), (55, none), (56, none), (57, none), (58, none), (59, none), (60, none), (61, none), (62, none), (63, none), (64, none), (65, none), (66, none), (67, none), (68, none), (69, none), (70, none), (71, none), (72, none), (73, none), (74, none), (75, none), (76, none), (77, none), (78, none), (79, none), (80, none), (81, none), (82, none), (83, none), (84, none), (85, none), (86, none), (87, none), (88, none), (89, none), (90, none), (91, none), (92, none), (93, none), (94, none), (95, none), (96, none), (97, none), (98, none), (99, none), (100, none), (101, none), (102, none), (103, none), (104, none), (105, none), (106, none), (107, none), (108, none), (109, none), (110, none), (111, none), (112, none), (113, none), (114, none), (115, none), (116, none), (117, none), (118, none), (119, none), (120, none), (121, none), (122, none), (123, none), (124, none), (125, none), (126, none), (127, none), (128, none), (129, none), (130, none), (131, none), (132, none), (133, none), (134, none), (135, none), (136, none), (137, none), (138, none), (139, none), (140, none), (141, none), (142, none), (143, none), (144, none), (145, none), (146, none), (147, none), (148, none), (149, none), (150, none), (151, none), (152, none), (153, none), (154, none), (155, none), (156, none), (157, none), (158, none), (159, none), (160, none), (161, none), (162, none), (163, none), (164, none), (165, none), (166, none), (167, none), (168, none), (169, none), (170, none), (171, none), (172, none), (173, none), (174, none), (175, none), (176, none), (177, none), (178, none), (179, none), (180, none), (181, none), (182, none), (183, none), (184, none), (185, none), (186, none), (187, none), (188, none), (189, none), (190, none), (191, none), (192, none), (193, none), (194, none), (195, none), (196, none), (197, none), (198, none), (199, none), (200, none), (201, none), (202, none), (203, none), (204, none), (205, none), (206, none), (207, none), (208, none), (209, none), (210, none), (211, none), (212, none), (213, none), (214, none), (215, none), (216, none), (217, none), (218, none), (219, none), (220, none), (221, none), (222, none), (223, none), (224, none), (225, none), (226, none), (227, none), (228, none), (229, none), (230, none), (231, none), (232, none), (233, none), (234, none), (235, none), (236, none), (237, none), (238, none), (239, none), (240, none), (241, none), (242, none), (243, none), (244, none), (245, none), (246, none), (247, none)], 248, none⟩ K = PeelF_s3 w0 w1 w2 w3 w4 w5 w6 w7 n2 n3 (fun a0 a1 a2 a3 a4 a5 a6 => lpN (sub qc12 [0, 1, 1, 1, 0, 0]) (rdX (qc5 fuel) 248) 0 [8, 10, 11, 73, 74] k ⟨[(8, .ptr 6 1 0 0), (10, vI a0), (11, vS a1), (73, vI a2), (74, vI a3)], [qc4, qc8, (2, some ⟨144, .agg [.sl 3 3 0 w3, .sl 4 1 0 n2, .sl 5 1 0 n3], true⟩), (3, some ⟨72, .lt (.pair (.pair (.int .i64) (.sl (.int .u64))) .str) a4, true⟩), (4, some ⟨9, .ls a5, true⟩), (5, bL 3 a6), qc9, (7, none), (8, none), (9, none), (10, none), (11, none), (12, none), (13, none), (14, none), (15, none), (16, none), (17, none), (18, none), (19, none), (20, none), (21, none), (22, none), (23, none), (24, none), (25, none), (26, none), (27, none), (28, none), (29, none), (30, none), (31, none), (32, none), (33, none), (34, none), (35, none), (36, none), (37, none), (38, none), (39, none), (40, none), (41, none), (42, none), (43, none), (44, none), (45, none), (46, none), (47, none), (48, none), (49, none), (50, none), (51, none), (52, none), (53, none), (54, none), (55, none), (56, none), (57, none), (58, none), (59, none), (60, none), (61, none), (62, none), (63, none), (64, none), (65, none), (66, none), (67, none), (68, none), (69, none), (70, none), (71, none), (72, none), (73, none), (74, none), (75, none), (76, none), (77, none), (78, none), (79, none), (80, none), (81, none), (82, none), (83, none), (84, none), (85, none), (86, none), (87, none), (88, none), (89, none), (90, none), (91, none), (92, none), (93, none), (94, none), (95, none), (96, none), (97, none), (98, none), (99, none), (100, none), (101, none), (102, none), (103, none), (104, none), (105, none), (106, none), (107, none), (108, none), (109, none), (110, none), (111, none), (112, none), (113, none), (114, none), (115, none), (116, none), (117, none), (118, none), (119, none), (120, none), (121, none), (122, none), (123, none), (124, none), (125, none), (126, none), (127, none), (128, none), (129, none), (130, none), (131, none), (132, none), (133, none), (134, none), (135, none), (136, none), (137, none), (138, none), (139, none), (140, none), (141, none), (142, none), (143, none), (144, none), (145, none), (146, none), (147, none), (148, none), (149, none), (150, none), (151, none), (152, none), (153, none), (154, none), (155, none), (156, none), (157, none), (158, none), (159, none), (160, none), (161, none), (162, none), (163, none), (164, none), (165, none), (166, none), (167, none), (168, none), (169, none), (170, none), (171, none), (172, none), (173, none), (174, none), (175, none), (176, none), (177, none), (178, none), (179, none), (180, none), (181, none), (182, none), (183, none), (184, none), (185, none), (186, none), (187, none), (188, none), (189, none), (190, none), (191, none), (192, none), (193, none), (194, none), (195, none), (196, none), (197, none), (198, none), (199, none), (200, none), (201, none), (202, none), (203, none), (204, none), (205, none), (206, none), (207, none), (208, none), (209, none), (210, none), (211, none), (212, none), (213, none), (214, none), (215, none), (216, none), (217, none), (218, none), (219, none), (220, none), (221, none), (222, none), (223, none), (224, none), (225, none), (226, none), (227, none), (228, none), (229, none), (230, none), (231, none), (232, none), (233, none), (234, none), (235, none), (236, none), (237, none), (238, none), (239, none), (240, none), (241, none), (242, none), (243, none), (244, none), (245, none), (246, none), (247, none)], 248, none⟩ K) (fun a7 a8 a9 => K (.exit 2) ⟨[], [qc4, qc8, (2, some ⟨144, .agg [.sl 3 3 0 w3, .sl 4 1 0 n2, .sl 5 1 0 n3], true⟩), (3, some ⟨72, .lt (.pair (.pair (.int .i64) (.sl (.int .u64))) .str) a7, true⟩), (4, some ⟨9, .ls a8, true⟩), (5, bL 3 a9), qc9, (7, none), (8, none), (9, none), (10, none), (11, none), (12, none), (13, none), (14, none), (15, none), (16, none), (17, none), (18, none), (19, none), (20, none), (21, none), (22, none), (23, none), (24, none), (25, none), (26, none), (27, none), (28, none), (29, none), (30, none), (31, none), (32, none), (33, none), (34, none), (35, none), (36, none), (37, none), (38, none), (39, none), (40, none), (41, none), (42, none), (43, none), (44, none), (45, none), (46, none), (47, none), (48, none), (49, none), (50, none), (51, none), (52, none), (53, none), (54, none), (55, none), (56, none), (57, none), (58, none), (59, none), (60, none), (61, none), (62, none), (63, none), (64, none), (65, none), (66, none), (67, none), (68, none), (69, none), (70, none), (71, none), (72, none), (73, none), (74, none), (75, none), (76, none), (77, none), (78, none), (79, none), (80, none), (81, none), (82, none), (83, none), (84, none), (85, none), (86, none), (87, none), (88, none), (89, none), (90, none), (91, none), (92, none), (93, none), (94, none), (95, none), (96, none), (97, none), (98, none), (99, none), (100, none), (101, none), (102, none), (103, none), (104, none), (105, none), (106, none), (107, none), (108, none), (109, none), (110, none), (111, none), (112, none), (113, none), (114, none), (115, none), (116, none), (117, none), (118, none), (119, none), (120, none), (121, none), (122, none), (123, none), (124, none), (125, none), (126, none), (127, none), (128, none), (129, none), (130, none), (131, none), (132, none), (133, none), (134, none), (135, none), (136, none), (137, none), (138, none), (139, none), (140, none), (141, none), (142, none), (143, none), (144, none), (145, none), (146, none), (147, none), (148, none), (149, none), (150, none), (151, none), (152, none), (153, none), (154, none), (155, none), (156, none), (157, none), (158, none), (159, none), (160, none), (161, none), (162, none), (163, none), (164, none), (165, none), (166, none), (167, none), (168, none), (169, none), (170, none), (171, none), (172, none), (173, none), (174, none), (175, none), (176, none), (177, none), (178, none), (179, none), (180, none), (181, none), (182, none), (183, none), (184, none), (185, none), (186, none), (187, none), (188, none), (189, none), (190, none), (191, none), (192, none), (193, none), (194, none), (195, none), (196, none), (197, none), (198, none), (199, none), (200, none), (201, none), (202, none), (203, none), (204, none), (205, none), (206, none), (207, none), (208, none), (209, none), (210, none), (211, none), (212, none), (213, none), (214, none), (215, none), (216, none), (217, none), (218, none), (219, none), (220, none), (221, none), (222, none), (223, none), (224, none), (225, none), (226, none), (227, none), (228, none), (229, none), (230, none), (231, none), (232, none), (233, none), (234, none), (235, none), (236, none), (237, none), (238, none), (239, none), (240, none), (241, none), (242, none), (243, none), (244, none), (245, none), (246, none), (247, none)], 248, none⟩) := by kernel_rfl
noncomputable def PeelF_l2 {R : Type} (fuel w0 n2 n3 : Nat) (w1 : List ((Int × List Int) × ByteArray)) (w2 : List ByteArray) (w3 : List Int) (k0 : (List ((Int × List Int) × ByteArray)) → List ByteArray → List Int → Option R) : Nat → Int → ByteArray → Int → Int → (List ((Int × List Int) × ByteArray)) → List ByteArray → List Int → Option R
  | 0, _, _, _, _, _, _, _ => none
  | k + 1, w4, w5, w6, w7, w8, w9, w10 =>
    (PeelF_s3 w7 w6 w8 w0 w4 w5 w9 w10 n2 n3 (fun a0 a1 a2 a3 a4 a5 a6 => ( PeelF_l2 fuel w0 n2 n3 w1 w2 w3 k0 k a0 a1 a2 a3 a4 a5 a6 )) (fun a7 a8 a9 => k0 a7 a8 a9))
theorem PeelF_l2_eq (fuel w0 n2 n3 : Nat) (w1 : List ((Int × List Int) × ByteArray)) (w2 : List ByteArray) (w3 : List Int) (K : Ex → St → Option Out) : ∀ (k : Nat) (w4 : Int) (w5 : ByteArray) (w6 w7 : Int) (w8 : List ((Int × List Int) × ByteArray)) (w9 : List ByteArray) (w10 : List Int), lpN (sub qc12 [0, 1, 1, 1, 0, 0]) (rdX (qc5 fuel) 248) 0 [8, 10, 11, 73, 74] k ⟨[(8, .ptr 6 1 0 0), (10, vI w4), (11, vS w5), (73, vI w6), (74, vI w7)], [qc4, qc8, (2, some ⟨144, .agg [.sl 3 3 0 w0, .sl 4 1 0 n2, .sl 5 1 0 n3], true⟩), (3, some ⟨72, .lt (.pair (.pair (.int .i64) (.sl (.int .u64))) .str) w8, true⟩), (4, some ⟨9, .ls w9, true⟩), (5, bL 3 w10), qc9, (7, none), (8, none), (9, none), (10, none), (11, none), (12, none), (13, none), (14, none), (15, none), (16, none), (17, none), (18, none), (19, none), (20, none), (21, none), (22, none), (23, none), (24, none), (25, none), (26, none), (27, none), (28, none), (29, none), (30, none), (31, none), (32, none), (33, none), (34, none), (35, none), (36, none), (37, none), (38, none), (39, none), (40, none), (41, none), (42, none), (43, none), (44, none), (45, none), (46, none), (47, none), (48, none), (49, none), (50, none), (51, none), (52, none), (53, none), (54, none), (55, none), (56, none), (57, none), (58, none), (59, none), (60, none), (61, none), (62, none), (63, none), (64, none), (65, none), (66, none), (67, none), (68, none), (69, none), (70, none), (71, none), (72, none), (73, none), (74, none), (75, none), (76, none), (77, none), (78, none), (79, none), (80, none), (81, none), (82, none), (83, none), (84, none), (85, none), (86, none), (87, none), (88, none), (89, none), (90, none), (91, none), (92, none), (93, none), (94, none), (95, none), (96, none), (97, none), (98, none), (99, none), (100, none), (101, none), (102, none), (103, none), (104, none), (105, none), (106, none), (107, none), (108, none), (109, none), (110, none), (111, none), (112, none), (113, none), (114, none), (115, none), (116, none), (117, none), (118, none), (119, none), (120, none), (121, none), (122, none), (123, none), (124, none), (125, none), (126, none), (127, none), (128, none), (129, none), (130, none), (131, none), (132, none), (133, none), (134, none), (135, none), (136, none), (137, none), (138, none), (139, none), (140, none), (141, none), (142, none), (143, none), (144, none), (145, none), (146, none), (147, none), (148, none), (149, none), (150, none), (151, none), (152, none), (153, none), (154, none), (155, none), (156, none), (157, none), (158, none), (159, none), (160, none), (161, none), (162, none), (163, none), (164, none), (165, none), (166, none), (167, none), (168, none), (169, none), (170, none), (171, none), (172, none), (173, none), (174, none), (175, none), (176, none), (177, none), (178, none), (179, none), (180, none), (181, none), (182, none), (183, none), (184, none), (185, none), (186, none), (187, none), (188, none), (189, none), (190, none), (191, none), (192, none), (193, none), (194, none), (195, none), (196, none), (197, none), (198, none), (199, none), (200, none), (201, none), (202, none), (203, none), (204, none), (205, none), (206, none), (207, none), (208, none), (209, none), (210, none), (211, none), (212, none), (213, none), (214, none), (215, none), (216, none), (217, none), (218, none), (219, none), (220, none), (221, none), (222, none), (223, none), (224, none), (225, none), (226, none), (227, none), (228, none), (229, none), (230, none), (231, none), (232, none), (233, none), (234, none), (235, none), (236, none), (237, none), (238, none), (239, none), (240, none), (241, none), (242, none), (243, none), (244, none), (245, none), (246, none), (247, none)], 248, none⟩ K = PeelF_l2 fuel w0 n2 n3 w1 w2 w3 (fun y0 y1 y2 => K (.exit 2) ⟨[], [qc4, qc8, (2, some ⟨144, .agg [.sl 3 3 0 w0, .sl 4 1 0 n2, .sl 5 1 0 n3], true⟩), (3, some ⟨72, .lt (.pair (.pair (.int .i64) (.sl (.int .u64))) .str) y0, true⟩), (4, some ⟨9, .ls y1, true⟩), (5, bL 3 y2), qc9, (7, none), (8, none), (9, none), (10, none), (11, none), (12, none), (13, none), (14, none), (15, none), (16, none), (17, none), (18, none), (19, none), (20, none), (21, none), (22, none), (23, none), (24, none), (25, none), (26, none), (27, none), (28, none), (29, none), (30, none), (31, none), (32, none), (33, none), (34, none), (35, none), (36, none), (37, none), (38, none), (39, none), (40, none), (41, none), (42, none), (43, none), (44, none), (45, none), (46, none), (47, none), (48, none), (49, none), (50, none), (51, none), (52, none), (53, none), (54, none), (55, none), (56, none), (57, none), (58, none), (59, none), (60, none), (61, none), (62, none), (63, none), (64, none), (65, none), (66, none), (67, none), (68, none), (69, none), (70, none), (71, none), (72, none), (73, none), (74, none), (75, none), (76, none), (77, none), (78, none), (79, none), (80, none), (81, none), (82, none), (83, none), (84, none), (85, none), (86, none), (87, none), (88, none), (89, none), (90, none), (91, none), (92, none), (93, none), (94, none), (95, none), (96, none), (97, none), (98, none), (99, none), (100, none), (101, none), (102, none), (103, none), (104, none), (105, none), (106, none), (107, none), (108, none), (109, none), (110, none), (111, none), (112, none), (113, none), (114, none), (115, none), (116, none), (117, none), (118, none), (119, none), (120, none), (121, none), (122, none), (123, none), (124, none), (125, none), (126, none), (127, none), (128, none), (129, none), (130, none), (131, none), (132, none), (133, none), (134, none), (135, none), (136, none), (137, none), (138, none), (139, none), (140, none), (141, none), (142, none), (143, none), (144, none), (145, none), (146, none), (147, none), (148, none), (149, none), (150, none), (151, none), (152, none), (153, none), (154, none), (155, none), (156, none), (157, none), (158, none), (159, none), (160, none), (161, none), (162, none), (163, none), (164, none), (165, none), (166, none), (167, none), (168, none), (169, none), (170, none), (171, none), (172, none), (173, none), (174, none), (175, none), (176, none), (177, none), (178, none), (179, none), (180, none), (181, none), (182, none), (183, none), (184, none), (185, none), (186, none), (187, none), (188, none), (189, none), (190, none), (191, none), (192, none), (193, none), (194, none), (195, none), (196, none), (197, none), (198, none), (199, none), (200, none), (201, none), (202, none), (203, none), (204, none), (205, none), (206, none), (207, none), (208, none), (209, none), (210, none), (211, none), (212, none), (213, none), (214, none), (215, none), (216, none), (217, none), (218, none), (219, none), (220, none), (221, none), (222, none), (223, none), (224, none), (225, none), (226, none), (227, none), (228, none), (229, none), (230, none), (231, none), (232, none), (233, none), (234, none), (235, none), (236, none), (237, none), (238, none), (239, none), (240, none), (241, none), (242, none), (243, none), (244, none), (245, none), (246, none), (247, none)], 248, none⟩) k w4 w5 w6 w7 w8 w9 w10
  | 0, _, _, _, _, _, _, _ => rfl
  | k + 1, w4, w5, w6, w7, w8, w9, w10 => by
    unfold PeelF_l2
    exact (PeelF_s3_eq fuel k K w7 w6 w8 w0 w4 w5 w9 w10 n2 n3).trans (congr (congr (Eq.refl (PeelF_s3 (R := Out) w7 w6 w8 w0 w4 w5 w9 w10 n2 n3)) (funext fun a0 => funext fun a1 => funext fun a2 => funext fun a3 => funext fun a4 => funext fun a5 => funext fun a6 => PeelF_l2_eq fuel w0 n2 n3 w1 w2 w3 K k a0 a1 a2 a3 a4 a5 a6)) (rfl))
noncomputable def PeelF_s4 {R : Type} (w0 : Nat) (x0 : List ((Int × List Int) × ByteArray)) (x1 : List ByteArray) (x2 : List Int) (w1 : List ((Int × List Int) × ByteArray)) (n2 n3 : Nat) (w2 : List ByteArray) (w3 : List Int) (c0 : Nat → (List ((Int × List Int) × ByteArray)) → List ByteArray → List Int → Option R) : Option R :=
  c0 w0 x0 x1 x2
theorem PeelF_s4_eq (fuel k : Nat) (K : Ex → St → Option Out) (w0 : Nat) (x0 : List ((Int × List Int) × ByteArray)) (x1 : List ByteArray) (x2 : List Int) (w1 : List ((Int × List Int) × ByteArray)) (n2 n3 : Nat) (w2 : List ByteArray) (w3 : List Int) : (kont (rdX (qc5 fuel) 248) qc12 [0, 1, 1, 1, 0] 0 (rndEnd ⟨[(12, vB false), (14, vI (stepS ((w1.drop 0).take w0))), (12, vB false), (13, .yl 7), (12, vB false), (12, vB (decide (((stepS ((w1.drop 0).take w0)) : Int) < 0))), (11, vB (decide (((stepS ((w1.drop 0).take w0)) : Int) < 0))), (10, vI (stepS ((w1.drop 0).take w0))), (4, vI (stepS ((w1.drop 0).take w0))), (9, vI (stepS ((w1.drop 0).take w0))), (8, .sl 3 3 0 w0), (7, .ptr 2 3 0 0), (6, .ptr 2 3 0 0), (5, .ptr 2 3 0 0), (0, .ptr 2 3 0 0), (1, .yl 7)], [qc4, qc8, (2, some ⟨144, .agg [.sl 3 3 0 w0, .sl 4 1 0 n2, .sl 5 1 0 n3], true⟩), (3, some ⟨72, .lt (.pair (.pair (.int .i64) (.sl (.int .u64))) .str) w1, true⟩), (4, some ⟨9, .ls w2, true⟩), (5, bL 3 w3), qc9, (7, none)], 232, none⟩ (ylK (itX Tryd.prog mode12 T_cloneE fuel 3 18 8 7 (roundK (evC qc15) (evC qc12) (qc5 fuel) #[39] qc19 qc6)) (sub qc17 [0, 1, 0]) 5 104 [⟨4, [], []⟩, ⟨3, [], []⟩, ⟨2, [], []⟩, ⟨1, [], []⟩, ⟨0, [], []⟩] (kont (itX Tryd.prog mode12 T_cloneE fuel 3 18 8 7 (roundK (evC qc15) (evC qc12) (qc5 fuel) #[39] qc19 qc6)) qc17 [0, 1, 0] 262131 (rdK qc17 (itX Tryd.prog mode12 T_cloneE fuel 3 18 8 7 (roundK (evC qc15) (evC qc12) (qc5 fuel) #[39] qc19 qc6)) 0 [0, 1] k K))))) (.exit 2) ⟨[], [qc4, qc8, (2, some ⟨144, .agg [.sl 3 3 0 w0, .sl 4 1 0 n2, .sl 5 1 0 n3], true⟩), (3, some ⟨72, .lt (.pair (.pair (.int .i64) (.sl (.int .u64))) .str) x0, true⟩), (4, some ⟨9, .ls x1, true⟩), (5, bL 3 x2), qc9, (7, none), (8, none), (9, none), (10, none), (11, none), (12, none), (13, none), (14, none), (15, none), (16, none), (17, none), (18, none), (19, none), (20, none), (21, none), (22, none), (23, none), (24, none), (25, none), (26, none), (27, none), (28, none), (29, none), (30, none), (31, none), (32, none), (33, none), (34, none), (35, none), (36, none), (37, none), (38, none), (39, none), (40, none), (41, none), (42, none), (43, none), (44, none), (45, none), (46, none), (47, none), (48, none), (49, none), (50, none), (51, none), (52, none), (53, none), (54, none), (55, none), (56, none), (57, none), (58, none), (59, none), (60, none), (61, none), (62, none), (63, none), (64, none), (65, none), (66, none), (67, none), (68, none), (69, none), (70, none), (71, none), (72, none), (73, none), (74, none), (75, none), (76, none), (77, none), (78, none), (79, none), (80, none), (81, none), (82, none), (83, none), (84, none), (85, none), (86, none), (87, none), (88, none), (89, none), (90, none), (91, none), (92, none), (93, none), (94, none), (95, none), (96, none), (97, none), (98, none), (99, none), (100, none), (101, none), (102, none), (103, none), (104, none), (105, none), (106, none), (107, none), (108, none), (109, none), (110, none), (111, none), (112, none), (113, none), (114, none), (115, none), (116, none), (117, none), (118, none), (119, none), (120, none), (121, none), (122, none), (123, none), (124, none), (125, none), (126, none), (127, none), (128, none), (129, none), (130, none), (131, none), (132, none), (133, none), (134, none), (135, none), (136, none), (137, none), (138, none), (139, none), (140, none), (141, none), (142, none), (143, none), (144, none), (145, none), (146, none), (147, none), (148, none), (149, none), (150, none), (151, none), (152, none), (153, none), (154, none), (155, none), (156, none), (157, none), (158, none), (159, none), (160, none), (161, none), (162, none), (163, none), (164, none), (165, none), (166, none), (167, none), (168, none), (169, none), (170, none), (171, none), (172, none), (173, none), (174, none), (175, none), (176, none), (177, none), (178, none), (179, none), (180, none), (181, none), (182, none), (183, none), (184, none), (185, none), (186, none), (187, none), (188, none), (189, none), (190, none), (191, none), (192, none), (193, none), (194, none), (195, none), (196, none), (197, none), (198, none), (199, none), (200, none), (201, none), (202, none), (203, none), (204, none), (205, none), (206, none), (207, none), (208, none), (209, none), (210, none), (211, none), (212, none), (213, none), (214, none), (215, none), (216, none), (217, none), (218, none), (219, none), (220, none), (221, none), (222, none), (223, none), (224, none), (225, none), (226, none), (227, none), (228, none), (229, none), (230, none), (231, none), (232, none), (233, none), (234, none), (235, none), (236, none), (237, none), (238, none), (239, none), (240, none), (241, none), (242, none), (243, none), (244, none), (245, none), (246, none), (247, none)], 248, none⟩ = PeelF_s4 w0 x0 x1 x2 w1 n2 n3 w2 w3 (fun a0 a1 a2 a3 => lpN qc17 (itX Tryd.prog mode12 T_cloneE fuel 3 18 8 7 (roundK (evC qc15) (evC qc12) (qc5 fuel) #[39] qc19 qc6)) 0 [0, 1] k ⟨[(0, .ptr 2 3 0 0), (1, .yl 7)], [qc4, qc8, (2, some ⟨144, .agg [.sl 3 3 0 a0, .sl 4 1 0 n2, .sl 5 1 0 n3], true⟩), (3, some ⟨72, .lt (.pair (.pair (.int .i64) (.sl (.int .u64))) .str) a1, true⟩), (4, some ⟨9, .ls a2, true⟩), (5, bL 3 a3), qc9, (7, none)], 8, none⟩ K) := by kernel_rfl
noncomputable def PeelF_s2 {R : Type} (w0 : List ((Int × List Int) × ByteArray)) (w1 : Nat) (w2 : List ByteArray) (w3 : List Int) (n2 n3 : Nat) (c0 : Nat → (List ((Int × List Int) × ByteArray)) → List ByteArray → List Int → Option R) (c1 : Int → ByteArray → Int → Int → (List ((Int × List Int) × ByteArray)) → List ByteArray → List Int → Option R) : Option R :=
  grd (okE ((w0.drop 0).take w1) && decide (List.length (α := Eqn) ((w0.drop 0).take w1) ≤ 1000)) <|
  br (decide (((stepS ((w0.drop 0).take w1)) : Int) < 0))
    (c0 w1 w0 w2 w3)
    (bnd (below (stepS ((w0.drop 0).take w1)) w1) fun j0 =>
    bnd (w0[(0 + j0)]?) fun e0 =>
    grd (okW e0.1.2) <|
    bnd (below (stepS ((w0.drop 0).take w1)) w1) fun j1 =>
    bnd (w0[(0 + j1)]?) fun e1 =>
    bnd (below (oneS e0.1.1 e0.1.2) n2) fun j2 =>
    bnd (w2[(0 + j2)]?) fun e2 =>
    bnd (below (oneS e0.1.1 e0.1.2) n3) fun j3 =>
    bnd (w3[(0 + j3)]?) fun e3 =>
    c1 (oneS e0.1.1 e0.1.2) e1.2 ((w1 : Nat) : Int) 0 w0 (w2.set (0 + j2) e1.2) (w3.set (0 + j3) 1))
theorem PeelF_s2_eq (fuel k : Nat) (K : Ex → St → Option Out) (w0 : List ((Int × List Int) × ByteArray)) (w1 : Nat) (w2 : List ByteArray) (w3 : List Int) (n2 n3 : Nat) : lpN qc17 (itX Tryd.prog mode12 T_cloneE fuel 3 18 8 7 (roundK (evC qc15) (evC qc12) (qc5 fuel) #[39] qc19 qc6)) 0 [0, 1] (k + 1) ⟨[(0, .ptr 2 3 0 0), (1, .yl 7)], [qc4, qc8, (2, some ⟨144, .agg [.sl 3 3 0 w1, .sl 4 1 0 n2, .sl 5 1 0 n3], true⟩), (3, some ⟨72, .lt (.pair (.pair (.int .i64) (.sl (.int .u64))) .str) w0, true⟩), (4, some ⟨9, .ls w2, true⟩), (5, bL 3 w3), qc9, (7, none)], 8, none⟩ K = PeelF_s2 w0 w1 w2 w3 n2 n3 (fun a0 a1 a2 a3 => K .ret ⟨[], [qc4, qc8, (2, some ⟨144, .agg [.sl 3 3 0 a0, .sl 4 1 0 n2, .sl 5 1 0 n3], true⟩), (3, some ⟨72, .lt (.pair (.pair (.int .i64) (.sl (.int .u64))) .str) a1, true⟩), (4, some ⟨9, .ls a2, true⟩), (5, bL 3 a3), qc9, (7, none)], 8, none⟩) (fun a4 a5 a6 a7 a8 a9 a10 => lpN (sub qc12 [0, 1, 1, 1, 0, 0]) (rdX (qc5 fuel) 248) 0 [8, 10, 11, 73, 74] fuel ⟨[(8, .ptr 6 1 0 0), (10, vI a4), (11, vS a5), (73, vI a6), (74, vI a7)], [qc4, qc8, (2, some ⟨144, .agg [.sl 3 3 0 w1, .sl 4 1 0 n2, .sl 5 1 0 n3], true⟩), (3, some ⟨72, .lt (.pair (.pair (.int .i64) (.sl (.int .u64))) .str) a8, true⟩), (4, some ⟨9, .ls a9, true⟩), (5, bL 3 a10), qc9, (7, none), (8, none), (9, none), (10, none), (11, none), (12, none), (13, none), (14, none), (15, none), (16, none), (17, none), (18, none), (19, none), (20, none), (21, none), (22, none), (23, none), (24, none), (25, none), (26, none), (27, none), (28, none), (29, none), (30, none), (31, none), (32, none), (33, none), (34, none), (35, none), (36, none), (37, none), (38, none), (39, none), (40, none), (41, none), (42, none), (43, none), (44, none), (45, none), (46, none), (47, none), (48, none), (49, none), (50, none), (51, none), (52, none), (53, none), (54, none), (55, none), (56, none), (57, none), (58, none), (59, none), (60, none), (61, none), (62, none), (63, none), (64, none), (65, none), (66, none), (67, none), (68, none), (69, none), (70, none), (71, none), (72, none), (73, none), (74, none), (75, none), (76, none), (77, none), (78, none), (79, none), (80, none), (81, none), (82, none), (83, none), (84, none), (85, none), (86, none), (87, none), (88, none), (89, none), (90, none), (91, none), (92, none), (93, none), (94, none), (95, none), (96, none), (97, none), (98, none), (99, none), (100, none), (101, none), (102, none), (103, none), (104, none), (105, none), (106, none), (107, none), (108, none), (109, none), (110, none), (111, none), (112, none), (113, none), (114, none), (115, none), (116, none), (117, none), (118, none), (119, none), (120, none), (121, none), (122, none), (123, none), (124, none), (125, none), (126, none), (127, none), (128, none), (129, none), (130, none), (131, none), (132, none), (133, none), (134, none), (135, none), (136, none), (137, none), (138, none), (139, none), (140, none), (141, none), (142, none), (143, none), (144, none), (145, none), (146, none), (147, none), (148, none), (149, none), (150, none), (151, none), (152, none), (153, none), (154, none), (155, none), (156, none), (157, none), (158, none), (159, none), (160, none), (161, none), (162, none), (163, none), (164, none), (165, none), (166, none), (167, none), (168, none), (169, none), (170, none), (171, none), (172, none), (173, none), (174, none), (175, none), (176, none), (177, none), (178, none), (179, none), (180, none), (181, none), (182, none), (183, none), (184, none), (185, none), (186, none), (187, none), (188, none), (189, none), (190, none), (191, none), (192, none), (193, none), (194, none), (195, none), (196, none), (197, none), (198, none), (199, none), (200, none), (201, none), (202, none), (203, none), (204, none), (205, none), (206, none), (207, none), (208, none), (209, none), (210, none), (211, none), (212, none), (213, none), (214, none), (215, none), (216, none), (217, none), (218, none), (219, none), (220, none), (221, none), (222, none), (223, none), (224, none), (225, none), (226, none), (227, none), (228, none), (229, none), (230, none), (231, none), (232, none), (233, none), (234, none), (235, none), (236, none), (237, none), (238, none), (239, none), (240, none), (241, none), (242, none), (243, none), (244, none), (245, none), (246, none), (247, none)], 248, none⟩ (kont (rdX (qc5 fuel) 248) qc12 [0, 1, 1, 1, 0] 0 (rndEnd ⟨[(12, vB false), (14, vI (stepS ((w0.drop 0).take w1))), (12, vB false), (13, .yl 7), (12, vB false), (12, vB (decide (((stepS ((w0.drop 0).take w1)) : Int) < 0))), (11, vB (decide (((stepS ((w0.drop 0).take w1)) : Int) < 0))), (10, vI (stepS ((w0.drop 0).take w1))), (4, vI (stepS ((w0.drop 0).take w1))), (9, vI (stepS ((w0.drop 0).take w1))), (8, .sl 3 3 0 w1), (7, .ptr 2 3 0 0), (6, .ptr 2 3 0 0), (5, .ptr 2 3 0 0), (0, .ptr 2 3 0 0), (1, .yl 7)], [qc4, qc8, (2, some ⟨144, .agg [.sl 3 3 0 w1, .sl 4 1 0 n2, .sl 5 1 0 n3], true⟩), (3, some ⟨72, .lt (.pair (.pair (.int .i64) (.sl (.int .u64))) .str) w0, true⟩), (4, some ⟨9, .ls w2, true⟩), (5, bL 3 w3), qc9, (7, none)], 232, none⟩ (ylK (itX Tryd.prog mode12 T_cloneE fuel 3 18 8 7 (roundK (evC qc15) (evC qc12) (qc5 fuel) #[39] qc19 qc6)) (sub qc17 [0, 1, 0]) 5 104 [⟨4, [], []⟩, ⟨3, [], []⟩, ⟨2, [], []⟩, ⟨1, [], []⟩, ⟨0, [], []⟩] (kont (itX Tryd.prog mode12 T_cloneE fuel 3 18 8 7 (roundK (evC qc15) (evC qc12) (qc5 fuel) #[39] qc19 qc6)) qc17 [0, 1, 0] 262131 (rdK qc17 (itX Tryd.prog mode12 T_cloneE fuel 3 18 8 7 (roundK (evC qc15) (evC qc12) (qc5 fuel) #[39] qc19 qc6)) 0 [0, 1] k K)))))) := by kernel_rfl
noncomputable def PeelF_l1 {R : Type} (fuel n2 n3 : Nat) (r : List ((Int × List Int) × ByteArray)) (k0 : Nat → (List ((Int × List Int) × ByteArray)) → List ByteArray → List Int → Option R) : Nat → Nat → (List ((Int × List Int) × ByteArray)) → List ByteArray → List Int → Option R
  | 0, _, _, _, _ => none
  | k + 1, w0, w1, w2, w3 =>
    (PeelF_s2 w1 w0 w2 w3 n2 n3 (fun a0 a1 a2 a3 => k0 a0 a1 a2 a3) (fun a4 a5 a6 a7 a8 a9 a10 => (PeelF_l2 fuel w0 n2 n3 w1 w2 w3 (fun x0 x1 x2 => (PeelF_s4 w0 x0 x1 x2 w1 n2 n3 w2 w3 (fun a11 a12 a13 a14 => ( PeelF_l1 fuel n2 n3 r k0 k a11 a12 a13 a14 )))) fuel a4 a5 a6 a7 a8 a9 a10)))
theorem PeelF_l1_eq (fuel n2 n3 : Nat) (r : List ((Int × List Int) × ByteArray)) (K : Ex → St → Option Out) : ∀ (k w0 : Nat) (w1 : List ((Int × List Int) × ByteArray)) (w2 : List ByteArray) (w3 : List Int), lpN qc17 (itX Tryd.prog mode12 T_cloneE fuel 3 18 8 7 (roundK (evC qc15) (evC qc12) (qc5 fuel) #[39] qc19 qc6)) 0 [0, 1] k ⟨[(0, .ptr 2 3 0 0), (1, .yl 7)], [qc4, qc8, (2, some ⟨144, .agg [.sl 3 3 0 w0, .sl 4 1 0 n2, .sl 5 1 0 n3], true⟩), (3, some ⟨72, .lt (.pair (.pair (.int .i64) (.sl (.int .u64))) .str) w1, true⟩), (4, some ⟨9, .ls w2, true⟩), (5, bL 3 w3), qc9, (7, none)], 8, none⟩ K = PeelF_l1 fuel n2 n3 r (fun y0 y1 y2 y3 => K .ret ⟨[], [qc4, qc8, (2, some ⟨144, .agg [.sl 3 3 0 y0, .sl 4 1 0 n2, .sl 5 1 0 n3], true⟩), (3, some ⟨72, .lt (.pair (.pair (.int .i64) (.sl (.int .u64))) .str) y1, true⟩), (4, some ⟨9, .ls y2, true⟩), (5, bL 3 y3), qc9, (7, none)], 8, none⟩) k w0 w1 w2 w3
  | 0, _, _, _, _ => rfl
  | k + 1, w0, w1, w2, w3 => by
    unfold PeelF_l1
    exact (PeelF_s2_eq fuel k K w1 w0 w2 w3 n2 n3).trans (congr (congr (Eq.refl (PeelF_s2 (R := Out) w1 w0 w2 w3 n2 n3)) (rfl)) (funext fun a0 => funext fun a1 => funext fun a2 => funext fun a3 => funext fun a4 => funext fun a5 => funext fun a6 => (PeelF_l2_eq fuel w0 n2 n3 w1 w2 w3 (kont (rdX (qc5 fuel) 248) qc12 [0, 1, 1, 1, 0] 0 (rndEnd ⟨[(12, vB false), (14, vI (stepS ((w1.drop 0).take w0))), (12, vB false), (13, .yl 7), (12, vB false), (12, vB (decide (((stepS ((w1.drop 0).take w0)) : Int) < 0))), (11, vB (decide (((stepS ((w1.drop 0).take w0)) : Int) < 0))), (10, vI (stepS ((w1.drop 0).take w0))), (4, vI (stepS ((w1.drop 0).take w0))), (9, vI (stepS ((w1.drop 0).take w0))), (8, .sl 3 3 0 w0), (7, .ptr 2 3 0 0), (6, .ptr 2 3 0 0), (5, .ptr 2 3 0 0), (0, .ptr 2 3 0 0), (1, .yl 7)], [qc4, qc8, (2, some ⟨144, .agg [.sl 3 3 0 w0, .sl 4 1 0 n2, .sl 5 1 0 n3], true⟩), (3, some ⟨72, .lt (.pair (.pair (.int .i64) (.sl (.int .u64))) .str) w1, true⟩), (4, some ⟨9, .ls w2, true⟩), (5, bL 3 w3), qc9, (7, none)], 232, none⟩ (ylK (itX Tryd.prog mode12 T_cloneE fuel 3 18 8 7 (roundK (evC qc15) (evC qc12) (qc5 fuel) #[39] qc19 qc6)) (sub qc17 [0, 1, 0]) 5 104 [⟨4, [], []⟩, ⟨3, [], []⟩, ⟨2, [], []⟩, ⟨1, [], []⟩, ⟨0, [], []⟩] (kont (itX Tryd.prog mode12 T_cloneE fuel 3 18 8 7 (roundK (evC qc15) (evC qc12) (qc5 fuel) #[39] qc19 qc6)) qc17 [0, 1, 0] 262131 (rdK qc17 (itX Tryd.prog mode12 T_cloneE fuel 3 18 8 7 (roundK (evC qc15) (evC qc12) (qc5 fuel) #[39] qc19 qc6)) 0 [0, 1] k K))))) fuel a0 a1 a2 a3 a4 a5 a6).trans (congrFun (congrFun (congrFun (congrFun (congrFun (congrFun (congrFun (congrFun (congr (Eq.refl (PeelF_l2 (R := Out) fuel w0 n2 n3 w1 w2 w3)) (funext fun x0 => funext fun x1 => funext fun x2 => (PeelF_s4_eq fuel k K w0 x0 x1 x2 w1 n2 n3 w2 w3).trans (congr (Eq.refl (PeelF_s4 (R := Out) w0 x0 x1 x2 w1 n2 n3 w2 w3)) (funext fun a7 => funext fun a8 => funext fun a9 => funext fun a10 => PeelF_l1_eq fuel n2 n3 r K k a7 a8 a9 a10)))) fuel) a0) a1) a2) a3) a4) a5) a6)))
noncomputable def PeelF_s7 {R : Type} (w0 w1 : Int) (n3 : Nat) (x0 w2 : List Int) (w3 n2 : Nat) (x1 w4 : List ByteArray) (w5 x2 : Nat) (x3 : List ((Int × List Int) × ByteArray)) (c0 c1 : Int → Nat → Nat → List Int → List ByteArray → Option R) (c2 : Nat → Nat → List Int → List ByteArray → Option R) : Option R :=
  br (decide (w0 < w1))
    (bnd (below w0 n3) fun j0 =>
    bnd (x0[(0 + j0)]?) fun e0 =>
    br (e0 == 1)
      (grd (Nat.beq w2.length w3) <|
      grd (okN (w3 + 1) 8) <|
      bnd (below w0 n2) fun j1 =>
      bnd (x1[(0 + j1)]?) fun e1 =>
      grd (Nat.beq w4.length w5) <|
      grd (okN (w5 + 1) 16) <|
      c0 (IntKind.i64.wrap (w0 + 1)) ((w2 ++ [w0]).length) ((w4 ++ [e1]).length) (w2 ++ [w0]) (w4 ++ [e1]))
      (c1 (IntKind.i64.wrap (w0 + 1)) w3 w5 w2 w4))
    (c2 w3 w5 w2 w4)
theorem PeelF_s7_eq (fuel k : Nat) (K : Ex → St → Option Out) (w0 w1 : Int) (n3 : Nat) (x0 w2 : List Int) (w3 n2 : Nat) (x1 w4 : List ByteArray) (w5 x2 : Nat) (x3 : List ((Int × List Int) × ByteArray)) : lpN qc20 (qc5 fuel) qc18 qc26 (k + 1) ⟨[qc13, (5, vI 0), qc24, qc23, (86, .sl 5 1 0 n3), (87, vI w1), (88, vI w0)], [qc4, qc8, (2, some ⟨144, .agg [.sl 3 3 0 x2, .sl 4 1 0 n2, .sl 5 1 0 n3], true⟩), (3, some ⟨72, .lt (.pair (.pair (.int .i64) (.sl (.int .u64))) .str) x3, true⟩), (4, some ⟨9, .ls x1, true⟩), (5, bL 3 x0), (6, some ⟨74, .agg [.sl 7 1 0 w3, .sl 8 1 0 w5, vN], true⟩), (7, bL 3 w2), (8, some ⟨9, .ls w4, true⟩)], 9, none⟩ K = PeelF_s7 w0 w1 n3 x0 w2 w3 n2 x1 w4 w5 x2 x3 (fun a0 a1 a2 a3 a4 => lpN qc20 (qc5 fuel) qc18 qc26 k ⟨[qc13, (5, vI 0), qc24, qc23, (86, .sl 5 1 0 n3), (87, vI w1), (88, vI a0)], [qc4, qc8, (2, some ⟨144, .agg [.sl 3 3 0 x2, .sl 4 1 0 n2, .sl 5 1 0 n3], true⟩), (3, some ⟨72, .lt (.pair (.pair (.int .i64) (.sl (.int .u64))) .str) x3, true⟩), (4, some ⟨9, .ls x1, true⟩), (5, bL 3 x0), (6, some ⟨74, .agg [.sl 7 1 0 a1, .sl 8 1 0 a2, vN], true⟩), (7, bL 3 a3), (8, some ⟨9, .ls a4, true⟩)], 9, none⟩ K) (fun a5 a6 a7 a8 a9 => lpN qc20 (qc5 fuel) qc18 qc26 k ⟨[qc13, (5, vI 0), qc24, qc23, (86, .sl 5 1 0 n3), (87, vI w1), (88, vI a5)], [qc4, qc8, (2, some ⟨144, .agg [.sl 3 3 0 x2, .sl 4 1 0 n2, .sl 5 1 0 n3], true⟩), (3, some ⟨72, .lt (.pair (.pair (.int .i64) (.sl (.int .u64))) .str) x3, true⟩), (4, some ⟨9, .ls x1, true⟩), (5, bL 3 x0), (6, some ⟨74, .agg [.sl 7 1 0 a6, .sl 8 1 0 a7, vN], true⟩), (7, bL 3 a8), (8, some ⟨9, .ls a9, true⟩)], 9, none⟩ K) (fun a10 a11 a12 a13 => K (.exit 4) ⟨[qc13, (5, vI 0), qc24, qc23], [qc4, qc8, (2, some ⟨144, .agg [.sl 3 3 0 x2, .sl 4 1 0 n2, .sl 5 1 0 n3], true⟩), (3, some ⟨72, .lt (.pair (.pair (.int .i64) (.sl (.int .u64))) .str) x3, true⟩), (4, some ⟨9, .ls x1, true⟩), (5, bL 3 x0), (6, some ⟨74, .agg [.sl 7 1 0 a10, .sl 8 1 0 a11, vN], true⟩), (7, bL 3 a12), (8, some ⟨9, .ls a13, true⟩)], 9, none⟩) := by kernel_rfl
noncomputable def PeelF_l4 {R : Type} (fuel n3 : Nat) (w0 : Int) (x0 n2 : Nat) (x1 : List ((Int × List Int) × ByteArray)) (x2 : List ByteArray) (x3 : List Int) (k0 : Nat → Nat → List Int → List ByteArray → Option R) : Nat → Int → Nat → Nat → List Int → List ByteArray → Option R
  | 0, _, _, _, _, _ => none
  | k + 1, w1, w2, w3, w4, w5 =>
    (PeelF_s7 w1 w0 n3 x3 w4 w2 n2 x2 w5 w3 x0 x1 (fun a0 a1 a2 a3 a4 => ( PeelF_l4 fuel n3 w0 x0 n2 x1 x2 x3 k0 k a0 a1 a2 a3 a4 )) (fun a5 a6 a7 a8 a9 => ( PeelF_l4 fuel n3 w0 x0 n2 x1 x2 x3 k0 k a5 a6 a7 a8 a9 )) (fun a10 a11 a12 a13 => k0 a10 a11 a12 a13))
theorem PeelF_l4_eq (fuel n3 : Nat) (w0 : Int) (x0 n2 : Nat) (x1 : List ((Int × List Int) × ByteArray)) (x2 : List ByteArray) (x3 : List Int) (K : Ex → St → Option Out) : ∀ (k : Nat) (w1 : Int) (w2 w3 : Nat) (w4 : List Int) (w5 : List ByteArray), lpN qc20 (qc5 fuel) qc18 qc26 k ⟨[qc13, (5, vI 0), qc24, qc23, (86, .sl 5 1 0 n3), (87, vI w0), (88, vI w1)], [qc4, qc8, (2, some ⟨144, .agg [.sl 3 3 0 x0, .sl 4 1 0 n2, .sl 5 1 0 n3], true⟩), (3, some ⟨72, .lt (.pair (.pair (.int .i64) (.sl (.int .u64))) .str) x1, true⟩), (4, some ⟨9, .ls x2, true⟩), (5, bL 3 x3), (6, some ⟨74, .agg [.sl 7 1 0 w2, .sl 8 1 0 w3, vN], true⟩), (7, bL 3 w4), (8, some ⟨9, .ls w5, true⟩)], 9, none⟩ K = PeelF_l4 fuel n3 w0 x0 n2 x1 x2 x3 (fun y0 y1 y2 y3 => K (.exit 4) ⟨[qc13, (5, vI 0), qc24, qc23], [qc4, qc8, (2, some ⟨144, .agg [.sl 3 3 0 x0, .sl 4 1 0 n2, .sl 5 1 0 n3], true⟩), (3, some ⟨72, .lt (.pair (.pair (.int .i64) (.sl (.int .u64))) .str) x1, true⟩), (4, some ⟨9, .ls x2, true⟩), (5, bL 3 x3), (6, some ⟨74, .agg [.sl 7 1 0 y0, .sl 8 1 0 y1, vN], true⟩), (7, bL 3 y2), (8, some ⟨9, .ls y3, true⟩)], 9, none⟩) k w1 w2 w3 w4 w5
  | 0, _, _, _, _, _ => rfl
  | k + 1, w1, w2, w3, w4, w5 => by
    unfold PeelF_l4
    exact (PeelF_s7_eq fuel k K w1 w0 n3 x3 w4 w2 n2 x2 w5 w3 x0 x1).trans (congr (congr (congr (Eq.refl (PeelF_s7 (R := Out) w1 w0 n3 x3 w4 w2 n2 x2 w5 w3 x0 x1)) (funext fun a0 => funext fun a1 => funext fun a2 => funext fun a3 => funext fun a4 => PeelF_l4_eq fuel n3 w0 x0 n2 x1 x2 x3 K k a0 a1 a2 a3 a4)) (funext fun a5 => funext fun a6 => funext fun a7 => funext fun a8 => funext fun a9 => PeelF_l4_eq fuel n3 w0 x0 n2 x1 x2 x3 K k a5 a6 a7 a8 a9)) (rfl))
noncomputable def PeelF_s6 {R : Type} (w0 w1 : Int) (n3 : Nat) (x0 : List Int) (n2 : Nat) (x1 : List ByteArray) (x2 : Nat) (x3 : List ((Int × List Int) × ByteArray)) (c0 : Int → Nat → Nat → List Int → List ByteArray → Option R) (c1 : Int → Int → Option R) (c2 : Option R) : Option R :=
  br (decide (w0 < w1))
    (bnd (below w0 n3) fun j0 =>
    bnd (x0[(0 + j0)]?) fun e0 =>
    br (e0 == 1)
      (bnd (below w0 n2) fun j1 =>
      bnd (x1[(0 + j1)]?) fun e1 =>
      c0 (IntKind.i64.wrap (w0 + 1)) 1 1 ([w0]) ([e1]))
      (c1 w1 (IntKind.i64.wrap (w0 + 1))))
    (c2)
theorem PeelF_s6_eq (fuel k : Nat) (K : Ex → St → Option Out) (w0 w1 : Int) (n3 : Nat) (x0 : List Int) (n2 : Nat) (x1 : List ByteArray) (x2 : Nat) (x3 : List ((Int × List Int) × ByteArray)) : lpN qc20 (qc5 fuel) qc18 qc26 (k + 1) ⟨[qc13, (5, vI 0), qc24, qc23, (86, .sl 5 1 0 n3), (87, vI w1), (88, vI w0)], [qc4, qc8, (2, some ⟨144, .agg [.sl 3 3 0 x2, .sl 4 1 0 n2, .sl 5 1 0 n3], true⟩), (3, some ⟨72, .lt (.pair (.pair (.int .i64) (.sl (.int .u64))) .str) x3, true⟩), (4, some ⟨9, .ls x1, true⟩), (5, bL 3 x0), qc21], 7, none⟩ K = PeelF_s6 w0 w1 n3 x0 n2 x1 x2 x3 (fun a0 a1 a2 a3 a4 => lpN qc20 (qc5 fuel) qc18 qc26 k ⟨[qc13, (5, vI 0), qc24, qc23, (86, .sl 5 1 0 n3), (87, vI w1), (88, vI a0)], [qc4, qc8, (2, some ⟨144, .agg [.sl 3 3 0 x2, .sl 4 1 0 n2, .sl 5 1 0 n3], true⟩), (3, some ⟨72, .lt (.pair (.pair (.int .i64) (.sl (.int .u64))) .str) x3, true⟩), (4, some ⟨9, .ls x1, true⟩), (5, bL 3 x0), (6, some ⟨74, .agg [.sl 7 1 0 a1, .sl 8 1 0 a2, vN], true⟩), (7, bL 3 a3), (8, some ⟨9, .ls a4, true⟩)], 9, none⟩ K) (fun a5 a6 => lpN qc20 (qc5 fuel) qc18 qc26 k ⟨[qc13, (5, vI 0), qc24, qc23, (86, .sl 5 1 0 n3), (87, vI a5), (88, vI a6)], [qc4, qc8, (2, some ⟨144, .agg [.sl 3 3 0 x2, .sl 4 1 0 n2, .sl 5 1 0 n3], true⟩), (3, some ⟨72, .lt (.pair (.pair (.int .i64) (.sl (.int .u64))) .str) x3, true⟩), (4, some ⟨9, .ls x1, true⟩), (5, bL 3 x0), qc21], 7, none⟩ K) (K (.exit 4) ⟨[qc13, (5, vI 0), qc24, qc23], [qc4, qc8, (2, some ⟨144, .agg [.sl 3 3 0 x2, .sl 4 1 0 n2, .sl 5 1 0 n3], true⟩), (3, some ⟨72, .lt (.pair (.pair (.int .i64) (.sl (.int .u64))) .str) x3, true⟩), (4, some ⟨9, .ls x1, true⟩), (5, bL 3 x0), qc21], 7, none⟩) := by kernel_rfl
noncomputable def PeelF_l3 {R : Type} (fuel n3 x0 n2 : Nat) (x1 : List ((Int × List Int) × ByteArray)) (x2 : List ByteArray) (x3 : List Int) (k0 : Nat → Nat → List Int → List ByteArray → Option R) (k1 : Option R) : Nat → Int → Int → Option R
  | 0, _, _ => none
  | k + 1, w0, w1 =>
    (PeelF_s6 w1 w0 n3 x3 n2 x2 x0 x1 (fun a0 a1 a2 a3 a4 => (PeelF_l4 fuel n3 w0 x0 n2 x1 x2 x3 (fun x4 x5 x6 x7 => k0 x4 x5 x6 x7) k a0 a1 a2 a3 a4)) (fun a5 a6 => ( PeelF_l3 fuel n3 x0 n2 x1 x2 x3 k0 k1 k a5 a6 )) (k1))
theorem PeelF_l3_eq (fuel n3 x0 n2 : Nat) (x1 : List ((Int × List Int) × ByteArray)) (x2 : List ByteArray) (x3 : List Int) (K : Ex → St → Option Out) : ∀ (k : Nat) (w0 w1 : Int), lpN qc20 (qc5 fuel) qc18 qc26 k ⟨[qc13, (5, vI 0), qc24, qc23, (86, .sl 5 1 0 n3), (87, vI w0), (88, vI w1)], [qc4, qc8, (2, some ⟨144, .agg [.sl 3 3 0 x0, .sl 4 1 0 n2, .sl 5 1 0 n3], true⟩), (3, some ⟨72, .lt (.pair (.pair (.int .i64) (.sl (.int .u64))) .str) x1, true⟩), (4, some ⟨9, .ls x2, true⟩), (5, bL 3 x3), qc21], 7, none⟩ K = PeelF_l3 fuel n3 x0 n2 x1 x2 x3 (fun y0 y1 y2 y3 => K (.exit 4) ⟨[qc13, (5, vI 0), qc24, qc23], [qc4, qc8, (2, some ⟨144, .agg [.sl 3 3 0 x0, .sl 4 1 0 n2, .sl 5 1 0 n3], true⟩), (3, some ⟨72, .lt (.pair (.pair (.int .i64) (.sl (.int .u64))) .str) x1, true⟩), (4, some ⟨9, .ls x2, true⟩), (5, bL 3 x3), (6, some ⟨74, .agg [.sl 7 1 0 y0, .sl 8 1 0 y1, vN], true⟩), (7, bL 3 y2), (8, some ⟨9, .ls y3, true⟩)], 9, none⟩) (K (.exit 4) ⟨[qc13, (5, vI 0), qc24, qc23], [qc4, qc8, (2, some ⟨144, .agg [.sl 3 3 0 x0, .sl 4 1 0 n2, .sl 5 1 0 n3], true⟩), (3, some ⟨72, .lt (.pair (.pair (.int .i64) (.sl (.int .u64))) .str) x1, true⟩), (4, some ⟨9, .ls x2, true⟩), (5, bL 3 x3), qc21], 7, none⟩) k w0 w1
  | 0, _, _ => rfl
  | k + 1, w0, w1 => by
    unfold PeelF_l3
    exact (PeelF_s6_eq fuel k K w1 w0 n3 x3 n2 x2 x0 x1).trans (congr (congr (congr (Eq.refl (PeelF_s6 (R := Out) w1 w0 n3 x3 n2 x2 x0 x1)) (funext fun a0 => funext fun a1 => funext fun a2 => funext fun a3 => funext fun a4 => PeelF_l4_eq fuel n3 w0 x0 n2 x1 x2 x3 K k a0 a1 a2 a3 a4)) (funext fun a5 => funext fun a6 => PeelF_l3_eq fuel n3 x0 n2 x1 x2 x3 K k a5 a6)) (rfl))
noncomputable def PeelF_s10 {R : Type} (w0 w1 : Int) (x0 : Nat) (x1 w2 : List ((Int × List Int) × ByteArray)) (w3 x2 x3 : Nat) (x4 : List Int) (x5 : List ByteArray) (c0 : Int → Nat → (List ((Int × List Int) × ByteArray)) → Option R) (c1 : Int → Nat → (List ((Int × List Int) × ByteArray)) → Option R) (c2 : Int → Nat → (List ((Int × List Int) × ByteArray)) → Option R) (c3 : Nat → (List ((Int × List Int) × ByteArray)) → Option R) : Option R :=
  br (decide (w0 < w1))
    (bnd (below w0 x0) fun j0 =>
    bnd (x1[(0 + j0)]?) fun e0 =>
    grd (okW e0.1.2) <|
    br (decide (((if rtS e0.1.1 e0.1.2 = true then (((plS e0.1.2).length : Nat) : Int) else 0) : Int) > 0))
      (grd (Nat.beq w2.length w3) <|
      grd (okN (w3 + 1) 48) <|
      c0 (IntKind.i64.wrap (w0 + 1)) ((w2 ++ [e0]).length) (w2 ++ [e0]))
      (grd (decide (e0.2.size ≤ 1000000000000)) <|
      br (!(nought e0.2))
        (grd (Nat.beq w2.length w3) <|
        grd (okN (w3 + 1) 48) <|
        c1 (IntKind.i64.wrap (w0 + 1)) ((w2 ++ [e0]).length) (w2 ++ [e0]))
        (c2 (IntKind.i64.wrap (w0 + 1)) w3 w2)))
    (c3 w3 w2)
theorem PeelF_s10_eq (fuel k : Nat) (K : Ex → St → Option Out) (w0 w1 : Int) (x0 : Nat) (x1 w2 : List ((Int × List Int) × ByteArray)) (w3 x2 x3 : Nat) (x4 : List Int) (x5 : List ByteArray) : lpN qc11 (qc5 fuel) qc10 qc16 (k + 1) ⟨[qc13, (5, vI 0), qc14, (117, .sl 5 3 0 x0), (118, vI w1), (119, vI w0)], [qc4, (1, some ⟨74, .agg [.sl 2 1 0 x2, .sl 3 1 0 x3, .sl 4 3 0 w3], true⟩), (2, bL 3 x4), (3, some ⟨9, .ls x5, true⟩), (4, some ⟨72, .lt (.pair (.pair (.int .i64) (.sl (.int .u64))) .str) w2, true⟩), (5, some ⟨72, .lt (.pair (.pair (.int .i64) (.sl (.int .u64))) .str) x1, true⟩)], 6, none⟩ K = PeelF_s10 w0 w1 x0 x1 w2 w3 x2 x3 x4 x5 (fun a0 a1 a2 => lpN qc11 (qc5 fuel) qc10 qc16 k ⟨[qc13, (5, vI 0), qc14, (117, .sl 5 3 0 x0), (118, vI w1), (119, vI a0)], [qc4, (1, some ⟨74, .agg [.sl 2 1 0 x2, .sl 3 1 0 x3, .sl 4 3 0 a1], true⟩), (2, bL 3 x4), (3, some ⟨9, .ls x5, true⟩), (4, some ⟨72, .lt (.pair (.pair (.int .i64) (.sl (.int .u64))) .str) a2, true⟩), (5, some ⟨72, .lt (.pair (.pair (.int .i64) (.sl (.int .u64))) .str) x1, true⟩)], 6, none⟩ K) (fun a3 a4 a5 => lpN qc11 (qc5 fuel) qc10 qc16 k ⟨[qc13, (5, vI 0), qc14, (117, .sl 5 3 0 x0), (118, vI w1), (119, vI a3)], [qc4, (1, some ⟨74, .agg [.sl 2 1 0 x2, .sl 3 1 0 x3, .sl 4 3 0 a4], true⟩), (2, bL 3 x4), (3, some ⟨9, .ls x5, true⟩), (4, some ⟨72, .lt (.pair (.pair (.int .i64) (.sl (.int .u64))) .str) a5, true⟩), (5, some ⟨72, .lt (.pair (.pair (.int .i64) (.sl (.int .u64))) .str) x1, true⟩)], 6, none⟩ K) (fun a6 a7 a8 => lpN qc11 (qc5 fuel) qc10 qc16 k ⟨[qc13, (5, vI 0), qc14, (117, .sl 5 3 0 x0), (118, vI w1), (119, vI a6)], [qc4, (1, some ⟨74, .agg [.sl 2 1 0 x2, .sl 3 1 0 x3, .sl 4 3 0 a7], true⟩), (2, bL 3 x4), (3, some ⟨9, .ls x5, true⟩), (4, some ⟨72, .lt (.pair (.pair (.int .i64) (.sl (.int .u64))) .str) a8, true⟩), (5, some ⟨72, .lt (.pair (.pair (.int .i64) (.sl (.int .u64))) .str) x1, true⟩)], 6, none⟩ K) (fun a9 a10 => K (.exit 6) ⟨[qc13, (5, vI 0), qc14], [qc4, (1, some ⟨74, .agg [.sl 2 1 0 x2, .sl 3 1 0 x3, .sl 4 3 0 a9], true⟩), (2, bL 3 x4), (3, some ⟨9, .ls x5, true⟩), (4, some ⟨72, .lt (.pair (.pair (.int .i64) (.sl (.int .u64))) .str) a10, true⟩)], 5, none⟩) := by kernel_rfl
noncomputable def PeelF_l6 {R : Type} (fuel x0 : Nat) (w0 : Int) (x1 x2 : Nat) (x3 : List Int) (x4 : List ByteArray) (x5 : List ((Int × List Int) × ByteArray)) (k0 : Nat → (List ((Int × List Int) × ByteArray)) → Option R) : Nat → Int → Nat → (List ((Int × List Int) × ByteArray)) → Option R
  | 0, _, _, _ => none
  | k + 1, w1, w2, w3 =>
    (PeelF_s10 w1 w0 x0 x5 w3 w2 x1 x2 x3 x4 (fun a0 a1 a2 => ( PeelF_l6 fuel x0 w0 x1 x2 x3 x4 x5 k0 k a0 a1 a2 )) (fun a3 a4 a5 => ( PeelF_l6 fuel x0 w0 x1 x2 x3 x4 x5 k0 k a3 a4 a5 )) (fun a6 a7 a8 => ( PeelF_l6 fuel x0 w0 x1 x2 x3 x4 x5 k0 k a6 a7 a8 )) (fun a9 a10 => k0 a9 a10))
theorem PeelF_l6_eq (fuel x0 : Nat) (w0 : Int) (x1 x2 : Nat) (x3 : List Int) (x4 : List ByteArray) (x5 : List ((Int × List Int) × ByteArray)) (K : Ex → St → Option Out) : ∀ (k : Nat) (w1 : Int) (w2 : Nat) (w3 : List ((Int × List Int) × ByteArray)), lpN qc11 (qc5 fuel) qc10 qc16 k ⟨[qc13, (5, vI 0), qc14, (117, .sl 5 3 0 x0), (118, vI w0), (119, vI w1)], [qc4, (1, some ⟨74, .agg [.sl 2 1 0 x1, .sl 3 1 0 x2, .sl 4 3 0 w2], true⟩), (2, bL 3 x3), (3, some ⟨9, .ls x4, true⟩), (4, some ⟨72, .lt (.pair (.pair (.int .i64) (.sl (.int .u64))) .str) w3, true⟩), (5, some ⟨72, .lt (.pair (.pair (.int .i64) (.sl (.int .u64))) .str) x5, true⟩)], 6, none⟩ K = PeelF_l6 fuel x0 w0 x1 x2 x3 x4 x5 (fun y0 y1 => K (.exit 6) ⟨[qc13, (5, vI 0), qc14], [qc4, (1, some ⟨74, .agg [.sl 2 1 0 x1, .sl 3 1 0 x2, .sl 4 3 0 y0], true⟩), (2, bL 3 x3), (3, some ⟨9, .ls x4, true⟩), (4, some ⟨72, .lt (.pair (.pair (.int .i64) (.sl (.int .u64))) .str) y1, true⟩)], 5, none⟩) k w1 w2 w3
  | 0, _, _, _ => rfl
  | k + 1, w1, w2, w3 => by
    unfold PeelF_l6
    exact (PeelF_s10_eq fuel k K w1 w0 x0 x5 w3 w2 x1 x2 x3 x4).trans (congr (congr (congr (congr (Eq.refl (PeelF_s10 (R := Out) w1 w0 x0 x5 w3 w2 x1 x2 x3 x4)) (funext fun a0 => funext fun a1 => funext fun a2 => PeelF_l6_eq fuel x0 w0 x1 x2 x3 x4 x5 K k a0 a1 a2)) (funext fun a3 => funext fun a4 => funext fun a5 => PeelF_l6_eq fuel x0 w0 x1 x2 x3 x4 x5 K k a3 a4 a5)) (funext fun a6 => funext fun a7 => funext fun a8 => PeelF_l6_eq fuel x0 w0 x1 x2 x3 x4 x5 K k a6 a7 a8)) (rfl))
noncomputable def PeelF_s9 {R : Type} (w0 w1 : Int) (x0 : Nat) (x1 : List ((Int × List Int) × ByteArray)) (x2 x3 : Nat) (x4 : List Int) (x5 : List ByteArray) (c0 : Int → Nat → (List ((Int × List Int) × ByteArray)) → Option R) (c1 : Int → Nat → (List ((Int × List Int) × ByteArray)) → Option R) (c2 : Int → Int → Option R) (c3 : Option R) : Option R :=
  br (decide (w0 < w1))
    (bnd (below w0 x0) fun j0 =>
    bnd (x1[(0 + j0)]?) fun e0 =>
    grd (okW e0.1.2) <|
    br (decide (((if rtS e0.1.1 e0.1.2 = true then (((plS e0.1.2).length : Nat) : Int) else 0) : Int) > 0))
      (c0 (IntKind.i64.wrap (w0 + 1)) 1 ([e0]))
      (grd (decide (e0.2.size ≤ 1000000000000)) <|
      br (!(nought e0.2))
        (c1 (IntKind.i64.wrap (w0 + 1)) 1 ([e0]))
        (c2 w1 (IntKind.i64.wrap (w0 + 1)))))
    (c3)
theorem PeelF_s9_eq (fuel k : Nat) (K : Ex → St → Option Out) (w0 w1 : Int) (x0 : Nat) (x1 : List ((Int × List Int) × ByteArray)) (x2 x3 : Nat) (x4 : List Int) (x5 : List ByteArray) : lpN qc11 (qc5 fuel) qc10 qc16 (k + 1) ⟨[qc13, (5, vI 0), qc14, (117, .sl 4 3 0 x0), (118, vI w1), (119, vI w0)], [qc4, (1, some ⟨74, .agg [.sl 2 1 0 x2, .sl 3 1 0 x3, vN], true⟩), (2, bL 3 x4), (3, some ⟨9, .ls x5, true⟩), (4, some ⟨72, .lt (.pair (.pair (.int .i64) (.sl (.int .u64))) .str) x1, true⟩)], 5, none⟩ K = PeelF_s9 w0 w1 x0 x1 x2 x3 x4 x5 (fun a0 a1 a2 => lpN qc11 (qc5 fuel) qc10 qc16 k ⟨[qc13, (5, vI 0), qc14, (117, .sl 5 3 0 x0), (118, vI w1), (119, vI a0)], [qc4, (1, some ⟨74, .agg [.sl 2 1 0 x2, .sl 3 1 0 x3, .sl 4 3 0 a1], true⟩), (2, bL 3 x4), (3, some ⟨9, .ls x5, true⟩), (4, some ⟨72, .lt (.pair (.pair (.int .i64) (.sl (.int .u64))) .str) a2, true⟩), (5, some ⟨72, .lt (.pair (.pair (.int .i64) (.sl (.int .u64))) .str) x1, true⟩)], 6, none⟩ K) (fun a3 a4 a5 => lpN qc11 (qc5 fuel) qc10 qc16 k ⟨[qc13, (5, vI 0), qc14, (117, .sl 5 3 0 x0), (118, vI w1), (119, vI a3)], [qc4, (1, some ⟨74, .agg [.sl 2 1 0 x2, .sl 3 1 0 x3, .sl 4 3 0 a4], true⟩), (2, bL 3 x4), (3, some ⟨9, .ls x5, true⟩), (4, some ⟨72, .lt (.pair (.pair (.int .i64) (.sl (.int .u64))) .str) a5, true⟩), (5, some ⟨72, .lt (.pair (.pair (.int .i64) (.sl (.int .u64))) .str) x1, true⟩)], 6, none⟩ K) (fun a6 a7 => lpN qc11 (qc5 fuel) qc10 qc16 k ⟨[qc13, (5, vI 0), qc14, (117, .sl 4 3 0 x0), (118, vI a6), (119, vI a7)], [qc4, (1, some ⟨74, .agg [.sl 2 1 0 x2, .sl 3 1 0 x3, vN], true⟩), (2, bL 3 x4), (3, some ⟨9, .ls x5, true⟩), (4, some ⟨72, .lt (.pair (.pair (.int .i64) (.sl (.int .u64))) .str) x1, true⟩)], 5, none⟩ K) (K (.exit 6) ⟨[qc13, (5, vI 0), qc14], [qc4, (1, some ⟨74, .agg [.sl 2 1 0 x2, .sl 3 1 0 x3, vN], true⟩), (2, bL 3 x4), (3, some ⟨9, .ls x5, true⟩)], 4, none⟩) := by kernel_rfl
noncomputable def PeelF_l5 {R : Type} (fuel x0 x1 x2 : Nat) (x3 : List Int) (x4 : List ByteArray) (x5 : List ((Int × List Int) × ByteArray)) (k0 : Nat → (List ((Int × List Int) × ByteArray)) → Option R) (k1 : Option R) : Nat → Int → Int → Option R
  | 0, _, _ => none
  | k + 1, w0, w1 =>
    (PeelF_s9 w1 w0 x0 x5 x1 x2 x3 x4 (fun a0 a1 a2 => (PeelF_l6 fuel x0 w0 x1 x2 x3 x4 x5 (fun x6 x7 => k0 x6 x7) k a0 a1 a2)) (fun a3 a4 a5 => (PeelF_l6 fuel x0 w0 x1 x2 x3 x4 x5 (fun x8 x9 => k0 x8 x9) k a3 a4 a5)) (fun a6 a7 => ( PeelF_l5 fuel x0 x1 x2 x3 x4 x5 k0 k1 k a6 a7 )) (k1))
theorem PeelF_l5_eq (fuel x0 x1 x2 : Nat) (x3 : List Int) (x4 : List ByteArray) (x5 : List ((Int × List Int) × ByteArray)) (K : Ex → St → Option Out) : ∀ (k : Nat) (w0 w1 : Int), lpN qc11 (qc5 fuel) qc10 qc16 k ⟨[qc13, (5, vI 0), qc14, (117, .sl 4 3 0 x0), (118, vI w0), (119, vI w1)], [qc4, (1, some ⟨74, .agg [.sl 2 1 0 x1, .sl 3 1 0 x2, vN], true⟩), (2, bL 3 x3), (3, some ⟨9, .ls x4, true⟩), (4, some ⟨72, .lt (.pair (.pair (.int .i64) (.sl (.int .u64))) .str) x5, true⟩)], 5, none⟩ K = PeelF_l5 fuel x0 x1 x2 x3 x4 x5 (fun y0 y1 => K (.exit 6) ⟨[qc13, (5, vI 0), qc14], [qc4, (1, some ⟨74, .agg [.sl 2 1 0 x1, .sl 3 1 0 x2, .sl 4 3 0 y0], true⟩), (2, bL 3 x3), (3, some ⟨9, .ls x4, true⟩), (4, some ⟨72, .lt (.pair (.pair (.int .i64) (.sl (.int .u64))) .str) y1, true⟩)], 5, none⟩) (K (.exit 6) ⟨[qc13, (5, vI 0), qc14], [qc4, (1, some ⟨74, .agg [.sl 2 1 0 x1, .sl 3 1 0 x2, vN], true⟩), (2, bL 3 x3), (3, some ⟨9, .ls x4, true⟩)], 4, none⟩) k w0 w1
  | 0, _, _ => rfl
  | k + 1, w0, w1 => by
    unfold PeelF_l5
    exact (PeelF_s9_eq fuel k K w1 w0 x0 x5 x1 x2 x3 x4).trans (congr (congr (congr (congr (Eq.refl (PeelF_s9 (R := Out) w1 w0 x0 x5 x1 x2 x3 x4)) (funext fun a0 => funext fun a1 => funext fun a2 => PeelF_l6_eq fuel x0 w0 x1 x2 x3 x4 x5 K k a0 a1 a2)) (funext fun a3 => funext fun a4 => funext fun a5 => PeelF_l6_eq fuel x0 w0 x1 x2 x3 x4 x5 K k a3 a4 a5)) (funext fun a6 => funext fun a7 => PeelF_l5_eq fuel x0 x1 x2 x3 x4 x5 K k a6 a7)) (rfl))
noncomputable def PeelF_s11 {R : Type} (x0 : List Int) (x1 : Nat) (x2 : List ByteArray) (x3 : Nat) (x4 : List ((Int × List Int) × ByteArray)) (x5 : Nat) (c0 : List Int → List ByteArray → (List ((Int × List Int) × ByteArray)) → Int → Option R) : Option R :=
  c0 ((x0.drop 0).take x1) ((x2.drop 0).take x3) ((x4.drop 0).take x5) 0
theorem PeelF_s11_eq (fuel : Nat)  (x0 : List Int) (x1 : Nat) (x2 : List ByteArray) (x3 : Nat) (x4 : List ((Int × List Int) × ByteArray)) (x5 : Nat) : (kont (qc5 fuel) qc7 qc25 48 (endK Tryd.prog 0 0 41)) (.exit 6) ⟨[qc13, (5, vI 0), qc14], [qc4, (1, some ⟨74, .agg [.sl 2 1 0 x1, .sl 3 1 0 x3, .sl 4 3 0 x5], true⟩), (2, bL 3 x0), (3, some ⟨9, .ls x2, true⟩), (4, some ⟨72, .lt (.pair (.pair (.int .i64) (.sl (.int .u64))) .str) x4, true⟩)], 5, none⟩ = PeelF_s11 x0 x1 x2 x3 x4 x5 (fun a0 a1 a2 a3 => some (.tup [.agg [vL a0, .ls a1, .lt (.pair (.pair (.int .i64) (.sl (.int .u64))) .str) a2], vI a3], [])) := by kernel_rfl
noncomputable def PeelF_s12 {R : Type} (x0 : List Int) (x1 : Nat) (x2 : List ByteArray) (x3 : Nat) (c0 : List Int → List ByteArray → Int → Option R) : Option R :=
  c0 ((x0.drop 0).take x1) ((x2.drop 0).take x3) 0
theorem PeelF_s12_eq (fuel : Nat)  (x0 : List Int) (x1 : Nat) (x2 : List ByteArray) (x3 : Nat) : (kont (qc5 fuel) qc7 qc25 48 (endK Tryd.prog 0 0 41)) (.exit 6) ⟨[qc13, (5, vI 0), qc14], [qc4, (1, some ⟨74, .agg [.sl 2 1 0 x1, .sl 3 1 0 x3, vN], true⟩), (2, bL 3 x0), (3, some ⟨9, .ls x2, true⟩)], 4, none⟩ = PeelF_s12 x0 x1 x2 x3 (fun a0 a1 a2 => some (.tup [.agg [vL a0, .ls a1, vN], vI a2], [])) := by kernel_rfl
noncomputable def PeelF_s8 {R : Type} (x0 n2 n3 : Nat) (x1 : List ((Int × List Int) × ByteArray)) (x2 : List ByteArray) (x3 : List Int) (x4 x5 : Nat) (x6 : List Int) (x7 : List ByteArray) (c0 : Int → Int → Option R) : Option R :=
  c0 ((x0 : Nat) : Int) 0
theorem PeelF_s8_eq (fuel : Nat)  (x0 n2 n3 : Nat) (x1 : List ((Int × List Int) × ByteArray)) (x2 : List ByteArray) (x3 : List Int) (x4 x5 : Nat) (x6 : List Int) (x7 : List ByteArray) : (kont (qc5 fuel) qc7 [1, 1, 1, 1, 1, 1, 0, 1, 0] 48 (endK Tryd.prog 0 0 41)) (.exit 4) ⟨[qc13, (5, vI 0), qc24, qc23], [qc4, qc8, (2, some ⟨144, .agg [.sl 3 3 0 x0, .sl 4 1 0 n2, .sl 5 1 0 n3], true⟩), (3, some ⟨72, .lt (.pair (.pair (.int .i64) (.sl (.int .u64))) .str) x1, true⟩), (4, some ⟨9, .ls x2, true⟩), (5, bL 3 x3), (6, some ⟨74, .agg [.sl 7 1 0 x4, .sl 8 1 0 x5, vN], true⟩), (7, bL 3 x6), (8, some ⟨9, .ls x7, true⟩)], 9, none⟩ = PeelF_s8 x0 n2 n3 x1 x2 x3 x4 x5 x6 x7 (fun a0 a1 => lpN qc11 (qc5 fuel) qc10 qc16 fuel ⟨[qc13, (5, vI 0), qc14, (117, .sl 4 3 0 x0), (118, vI a0), (119, vI a1)], [qc4, (1, some ⟨74, .agg [.sl 2 1 0 x4, .sl 3 1 0 x5, vN], true⟩), (2, bL 3 x6), (3, some ⟨9, .ls x7, true⟩), (4, some ⟨72, .lt (.pair (.pair (.int .i64) (.sl (.int .u64))) .str) x1, true⟩)], 5, none⟩ (kont (qc5 fuel) qc7 qc25 48 (endK Tryd.prog 0 0 41))) := by kernel_rfl
noncomputable def PeelF_s15 {R : Type} (w0 w1 : Int) (x0 : Nat) (x1 w2 : List ((Int × List Int) × ByteArray)) (w3 : Nat) (c0 : Int → Nat → (List ((Int × List Int) × ByteArray)) → Option R) (c1 : Int → Nat → (List ((Int × List Int) × ByteArray)) → Option R) (c2 : Int → Nat → (List ((Int × List Int) × ByteArray)) → Option R) (c3 : Nat → (List ((Int × List Int) × ByteArray)) → Option R) : Option R :=
  br (decide (w0 < w1))
    (bnd (below w0 x0) fun j0 =>
    bnd (x1[(0 + j0)]?) fun e0 =>
    grd (okW e0.1.2) <|
    br (decide (((if rtS e0.1.1 e0.1.2 = true then (((plS e0.1.2).length : Nat) : Int) else 0) : Int) > 0))
      (grd (Nat.beq w2.length w3) <|
      grd (okN (w3 + 1) 48) <|
      c0 (IntKind.i64.wrap (w0 + 1)) ((w2 ++ [e0]).length) (w2 ++ [e0]))
      (grd (decide (e0.2.size ≤ 1000000000000)) <|
      br (!(nought e0.2))
        (grd (Nat.beq w2.length w3) <|
        grd (okN (w3 + 1) 48) <|
        c1 (IntKind.i64.wrap (w0 + 1)) ((w2 ++ [e0]).length) (w2 ++ [e0]))
        (c2 (IntKind.i64.wrap (w0 + 1)) w3 w2)))
    (c3 w3 w2)
theorem PeelF_s15_eq (fuel k : Nat) (K : Ex → St → Option Out) (w0 w1 : Int) (x0 : Nat) (x1 w2 : List ((Int × List Int) × ByteArray)) (w3 : Nat) : lpN qc11 (qc5 fuel) qc10 qc16 (k + 1) ⟨[qc13, (5, vI 0), qc14, (117, .sl 3 3 0 x0), (118, vI w1), (119, vI w0)], [qc4, (1, some ⟨74, .agg [vN, vN, .sl 2 3 0 w3], true⟩), (2, some ⟨72, .lt (.pair (.pair (.int .i64) (.sl (.int .u64))) .str) w2, true⟩), (3, some ⟨72, .lt (.pair (.pair (.int .i64) (.sl (.int .u64))) .str) x1, true⟩)], 4, none⟩ K = PeelF_s15 w0 w1 x0 x1 w2 w3 (fun a0 a1 a2 => lpN qc11 (qc5 fuel) qc10 qc16 k ⟨[qc13, (5, vI 0), qc14, (117, .sl 3 3 0 x0), (118, vI w1), (119, vI a0)], [qc4, (1, some ⟨74, .agg [vN, vN, .sl 2 3 0 a1], true⟩), (2, some ⟨72, .lt (.pair (.pair (.int .i64) (.sl (.int .u64))) .str) a2, true⟩), (3, some ⟨72, .lt (.pair (.pair (.int .i64) (.sl (.int .u64))) .str) x1, true⟩)], 4, none⟩ K) (fun a3 a4 a5 => lpN qc11 (qc5 fuel) qc10 qc16 k ⟨[qc13, (5, vI 0), qc14, (117, .sl 3 3 0 x0), (118, vI w1), (119, vI a3)], [qc4, (1, some ⟨74, .agg [vN, vN, .sl 2 3 0 a4], true⟩), (2, some ⟨72, .lt (.pair (.pair (.int .i64) (.sl (.int .u64))) .str) a5, true⟩), (3, some ⟨72, .lt (.pair (.pair (.int .i64) (.sl (.int .u64))) .str) x1, true⟩)], 4, none⟩ K) (fun a6 a7 a8 => lpN qc11 (qc5 fuel) qc10 qc16 k ⟨[qc13, (5, vI 0), qc14, (117, .sl 3 3 0 x0), (118, vI w1), (119, vI a6)], [qc4, (1, some ⟨74, .agg [vN, vN, .sl 2 3 0 a7], true⟩), (2, some ⟨72, .lt (.pair (.pair (.int .i64) (.sl (.int .u64))) .str) a8, true⟩), (3, some ⟨72, .lt (.pair (.pair (.int .i64) (.sl (.int .u64))) .str) x1, true⟩)], 4, none⟩ K) (fun a9 a10 => K (.exit 6) ⟨[qc13, (5, vI 0), qc14], [qc4, (1, some ⟨74, .agg [vN, vN, .sl 2 3 0 a9], true⟩), (2, some ⟨72, .lt (.pair (.pair (.int .i64) (.sl (.int .u64))) .str) a10, true⟩)], 3, none⟩) := by kernel_rfl
noncomputable def PeelF_l8 {R : Type} (fuel x0 : Nat) (w0 : Int) (x1 : List ((Int × List Int) × ByteArray)) (k0 : Nat → (List ((Int × List Int) × ByteArray)) → Option R) : Nat → Int → Nat → (List ((Int × List Int) × ByteArray)) → Option R
  | 0, _, _, _ => none
  | k + 1, w1, w2, w3 =>
    (PeelF_s15 w1 w0 x0 x1 w3 w2 (fun a0 a1 a2 => ( PeelF_l8 fuel x0 w0 x1 k0 k a0 a1 a2 )) (fun a3 a4 a5 => ( PeelF_l8 fuel x0 w0 x1 k0 k a3 a4 a5 )) (fun a6 a7 a8 => ( PeelF_l8 fuel x0 w0 x1 k0 k a6 a7 a8 )) (fun a9 a10 => k0 a9 a10))
theorem PeelF_l8_eq (fuel x0 : Nat) (w0 : Int) (x1 : List ((Int × List Int) × ByteArray)) (K : Ex → St → Option Out) : ∀ (k : Nat) (w1 : Int) (w2 : Nat) (w3 : List ((Int × List Int) × ByteArray)), lpN qc11 (qc5 fuel) qc10 qc16 k ⟨[qc13, (5, vI 0), qc14, (117, .sl 3 3 0 x0), (118, vI w0), (119, vI w1)], [qc4, (1, some ⟨74, .agg [vN, vN, .sl 2 3 0 w2], true⟩), (2, some ⟨72, .lt (.pair (.pair (.int .i64) (.sl (.int .u64))) .str) w3, true⟩), (3, some ⟨72, .lt (.pair (.pair (.int .i64) (.sl (.int .u64))) .str) x1, true⟩)], 4, none⟩ K = PeelF_l8 fuel x0 w0 x1 (fun y0 y1 => K (.exit 6) ⟨[qc13, (5, vI 0), qc14], [qc4, (1, some ⟨74, .agg [vN, vN, .sl 2 3 0 y0], true⟩), (2, some ⟨72, .lt (.pair (.pair (.int .i64) (.sl (.int .u64))) .str) y1, true⟩)], 3, none⟩) k w1 w2 w3
  | 0, _, _, _ => rfl
  | k + 1, w1, w2, w3 => by
    unfold PeelF_l8
    exact (PeelF_s15_eq fuel k K w1 w0 x0 x1 w3 w2).trans (congr (congr (congr (congr (Eq.refl (PeelF_s15 (R := Out) w1 w0 x0 x1 w3 w2)) (funext fun a0 => funext fun a1 => funext fun a2 => PeelF_l8_eq fuel x0 w0 x1 K k a0 a1 a2)) (funext fun a3 => funext fun a4 => funext fun a5 => PeelF_l8_eq fuel x0 w0 x1 K k a3 a4 a5)) (funext fun a6 => funext fun a7 => funext fun a8 => PeelF_l8_eq fuel x0 w0 x1 K k a6 a7 a8)) (rfl))
noncomputable def PeelF_s14 {R : Type} (w0 w1 : Int) (x0 : Nat) (x1 : List ((Int × List Int) × ByteArray)) (c0 : Int → Nat → (List ((Int × List Int) × ByteArray)) → Option R) (c1 : Int → Nat → (List ((Int × List Int) × ByteArray)) → Option R) (c2 : Int → Int → Option R) (c3 : Option R) : Option R :=
  br (decide (w0 < w1))
    (bnd (below w0 x0) fun j0 =>
    bnd (x1[(0 + j0)]?) fun e0 =>
    grd (okW e0.1.2) <|
    br (decide (((if rtS e0.1.1 e0.1.2 = true then (((plS e0.1.2).length : Nat) : Int) else 0) : Int) > 0))
      (c0 (IntKind.i64.wrap (w0 + 1)) 1 ([e0]))
      (grd (decide (e0.2.size ≤ 1000000000000)) <|
      br (!(nought e0.2))
        (c1 (IntKind.i64.wrap (w0 + 1)) 1 ([e0]))
        (c2 w1 (IntKind.i64.wrap (w0 + 1)))))
    (c3)
theorem PeelF_s14_eq (fuel k : Nat) (K : Ex → St → Option Out) (w0 w1 : Int) (x0 : Nat) (x1 : List ((Int × List Int) × ByteArray)) : lpN qc11 (qc5 fuel) qc10 qc16 (k + 1) ⟨[qc13, (5, vI 0), qc14, (117, .sl 2 3 0 x0), (118, vI w1), (119, vI w0)], [qc4, qc22, (2, some ⟨72, .lt (.pair (.pair (.int .i64) (.sl (.int .u64))) .str) x1, true⟩)], 3, none⟩ K = PeelF_s14 w0 w1 x0 x1 (fun a0 a1 a2 => lpN qc11 (qc5 fuel) qc10 qc16 k ⟨[qc13, (5, vI 0), qc14, (117, .sl 3 3 0 x0), (118, vI w1), (119, vI a0)], [qc4, (1, some ⟨74, .agg [vN, vN, .sl 2 3 0 a1], true⟩), (2, some ⟨72, .lt (.pair (.pair (.int .i64) (.sl (.int .u64))) .str) a2, true⟩), (3, some ⟨72, .lt (.pair (.pair (.int .i64) (.sl (.int .u64))) .str) x1, true⟩)], 4, none⟩ K) (fun a3 a4 a5 => lpN qc11 (qc5 fuel) qc10 qc16 k ⟨[qc13, (5, vI 0), qc14, (117, .sl 3 3 0 x0), (118, vI w1), (119, vI a3)], [qc4, (1, some ⟨74, .agg [vN, vN, .sl 2 3 0 a4], true⟩), (2, some ⟨72, .lt (.pair (.pair (.int .i64) (.sl (.int .u64))) .str) a5, true⟩), (3, some ⟨72, .lt (.pair (.pair (.int .i64) (.sl (.int .u64))) .str) x1, true⟩)], 4, none⟩ K) (fun a6 a7 => lpN qc11 (qc5 fuel) qc10 qc16 k ⟨[qc13, (5, vI 0), qc14, (117, .sl 2 3 0 x0), (118, vI a6), (119, vI a7)], [qc4, qc22, (2, some ⟨72, .lt (.pair (.pair (.int .i64) (.sl (.int .u64))) .str) x1, true⟩)], 3, none⟩ K) (K (.exit 6) ⟨[qc13, (5, vI 0), qc14], [qc4, qc22], 2, none⟩) := by kernel_rfl
noncomputable def PeelF_l7 {R : Type} (fuel x0 : Nat) (x1 : List ((Int × List Int) × ByteArray)) (k0 : Nat → (List ((Int × List Int) × ByteArray)) → Option R) (k1 : Option R) : Nat → Int → Int → Option R
  | 0, _, _ => none
  | k + 1, w0, w1 =>
    (PeelF_s14 w1 w0 x0 x1 (fun a0 a1 a2 => (PeelF_l8 fuel x0 w0 x1 (fun x2 x3 => k0 x2 x3) k a0 a1 a2)) (fun a3 a4 a5 => (PeelF_l8 fuel x0 w0 x1 (fun x4 x5 => k0 x4 x5) k a3 a4 a5)) (fun a6 a7 => ( PeelF_l7 fuel x0 x1 k0 k1 k a6 a7 )) (k1))
theorem PeelF_l7_eq (fuel x0 : Nat) (x1 : List ((Int × List Int) × ByteArray)) (K : Ex → St → Option Out) : ∀ (k : Nat) (w0 w1 : Int), lpN qc11 (qc5 fuel) qc10 qc16 k ⟨[qc13, (5, vI 0), qc14, (117, .sl 2 3 0 x0), (118, vI w0), (119, vI w1)], [qc4, qc22, (2, some ⟨72, .lt (.pair (.pair (.int .i64) (.sl (.int .u64))) .str) x1, true⟩)], 3, none⟩ K = PeelF_l7 fuel x0 x1 (fun y0 y1 => K (.exit 6) ⟨[qc13, (5, vI 0), qc14], [qc4, (1, some ⟨74, .agg [vN, vN, .sl 2 3 0 y0], true⟩), (2, some ⟨72, .lt (.pair (.pair (.int .i64) (.sl (.int .u64))) .str) y1, true⟩)], 3, none⟩) (K (.exit 6) ⟨[qc13, (5, vI 0), qc14], [qc4, qc22], 2, none⟩) k w0 w1
  | 0, _, _ => rfl
  | k + 1, w0, w1 => by
    unfold PeelF_l7
    exact (PeelF_s14_eq fuel k K w1 w0 x0 x1).trans (congr (congr (congr (congr (Eq.refl (PeelF_s14 (R := Out) w1 w0 x0 x1)) (funext fun a0 => funext fun a1 => funext fun a2 => PeelF_l8_eq fuel x0 w0 x1 K k a0 a1 a2)) (funext fun a3 => funext fun a4 => funext fun a5 => PeelF_l8_eq fuel x0 w0 x1 K k a3 a4 a5)) (funext fun a6 => funext fun a7 => PeelF_l7_eq fuel x0 x1 K k a6 a7)) (rfl))
noncomputable def PeelF_s16 {R : Type} (x0 : List ((Int × List Int) × ByteArray)) (x1 : Nat) (c0 : (List ((Int × List Int) × ByteArray)) → Int → Option R) : Option R :=
  c0 ((x0.drop 0).take x1) 0
theorem PeelF_s16_eq (fuel : Nat)  (x0 : List ((Int × List Int) × ByteArray)) (x1 : Nat) : (kont (qc5 fuel) qc7 qc25 48 (endK Tryd.prog 0 0 41)) (.exit 6) ⟨[qc13, (5, vI 0), qc14], [qc4, (1, some ⟨74, .agg [vN, vN, .sl 2 3 0 x1], true⟩), (2, some ⟨72, .lt (.pair (.pair (.int .i64) (.sl (.int .u64))) .str) x0, true⟩)], 3, none⟩ = PeelF_s16 x0 x1 (fun a0 a1 => some (.tup [.agg [vN, vN, .lt (.pair (.pair (.int .i64) (.sl (.int .u64))) .str) a0], vI a1], [])) := by kernel_rfl
noncomputable def PeelF_s17 {R : Type}  (c0 : Int → Option R) : Option R :=
  c0 0
theorem PeelF_s17_eq (fuel : Nat)   : (kont (qc5 fuel) qc7 qc25 48 (endK Tryd.prog 0 0 41)) (.exit 6) ⟨[qc13, (5, vI 0), qc14], [qc4, qc22], 2, none⟩ = PeelF_s17  (fun a0 => some (.tup [.agg [vN, vN, vN], vI a0], [])) := by kernel_rfl
noncomputable def PeelF_s13 {R : Type} (x0 n2 n3 : Nat) (x1 : List ((Int × List Int) × ByteArray)) (x2 : List ByteArray) (x3 : List Int) (c0 : Int → Int → Option R) : Option R :=
  c0 ((x0 : Nat) : Int) 0
theorem PeelF_s13_eq (fuel : Nat)  (x0 n2 n3 : Nat) (x1 : List ((Int × List Int) × ByteArray)) (x2 : List ByteArray) (x3 : List Int) : (kont (qc5 fuel) qc7 [1, 1, 1, 1, 1, 1, 0, 1, 0] 48 (endK Tryd.prog 0 0 41)) (.exit 4) ⟨[qc13, (5, vI 0), qc24, qc23], [qc4, qc8, (2, some ⟨144, .agg [.sl 3 3 0 x0, .sl 4 1 0 n2, .sl 5 1 0 n3], true⟩), (3, some ⟨72, .lt (.pair (.pair (.int .i64) (.sl (.int .u64))) .str) x1, true⟩), (4, some ⟨9, .ls x2, true⟩), (5, bL 3 x3), qc21], 7, none⟩ = PeelF_s13 x0 n2 n3 x1 x2 x3 (fun a0 a1 => lpN qc11 (qc5 fuel) qc10 qc16 fuel ⟨[qc13, (5, vI 0), qc14, (117, .sl 2 3 0 x0), (118, vI a0), (119, vI a1)], [qc4, qc22, (2, some ⟨72, .lt (.pair (.pair (.int .i64) (.sl (.int .u64))) .str) x1, true⟩)], 3, none⟩ (kont (qc5 fuel) qc7 qc25 48 (endK Tryd.prog 0 0 41))) := by kernel_rfl
noncomputable def PeelF_s5 {R : Type} (n3 : Nat) (r : List ((Int × List Int) × ByteArray)) (n2 x0 : Nat) (x1 : List ((Int × List Int) × ByteArray)) (x2 : List ByteArray) (x3 : List Int) (c0 : Int → Int → Option R) : Option R :=
  c0 ((n3 : Nat) : Int) 0
theorem PeelF_s5_eq (fuel : Nat)  (n3 : Nat) (r : List ((Int × List Int) × ByteArray)) (n2 x0 : Nat) (x1 : List ((Int × List Int) × ByteArray)) (x2 : List ByteArray) (x3 : List Int) : (kont (itX Tryd.prog mode12 T_cloneE fuel 3 18 8 7 (roundK (evC qc15) (evC qc12) (qc5 fuel) #[39] qc19 qc6)) (bodyOf Tryd.prog 97) [0] 0 (itE (behind ⟨qc6, [qc4, qc8, (2, some ⟨144, .agg [.sl 3 3 0 r.length, .sl 4 1 0 n2, .sl 5 1 0 n3], true⟩), (3, some ⟨72, .lt (.pair (.pair (.int .i64) (.sl (.int .u64))) .str) r, true⟩), (4, some ⟨9, .ls (List.replicate n2 ByteArray.empty), true⟩), (5, some ⟨3, vL (List.replicate n3 (0 : Int)), true⟩), qc9], 7, none⟩ (kont (qc5 fuel) qc7 [1, 1, 1, 1, 0, 1, 0] 48 (endK Tryd.prog 0 0 41))))) .ret ⟨[], [qc4, qc8, (2, some ⟨144, .agg [.sl 3 3 0 x0, .sl 4 1 0 n2, .sl 5 1 0 n3], true⟩), (3, some ⟨72, .lt (.pair (.pair (.int .i64) (.sl (.int .u64))) .str) x1, true⟩), (4, some ⟨9, .ls x2, true⟩), (5, bL 3 x3), qc9, (7, none)], 8, none⟩ = PeelF_s5 n3 r n2 x0 x1 x2 x3 (fun a0 a1 => lpN qc20 (qc5 fuel) qc18 qc26 fuel ⟨[qc13, (5, vI 0), qc24, qc23, (86, .sl 5 1 0 n3), (87, vI a0), (88, vI a1)], [qc4, qc8, (2, some ⟨144, .agg [.sl 3 3 0 x0, .sl 4 1 0 n2, .sl 5 1 0 n3], true⟩), (3, some ⟨72, .lt (.pair (.pair (.int .i64) (.sl (.int .u64))) .str) x1, true⟩), (4, some ⟨9, .ls x2, true⟩), (5, bL 3 x3), qc21], 7, none⟩ (kont (qc5 fuel) qc7 [1, 1, 1, 1, 1, 1, 0, 1, 0] 48 (endK Tryd.prog 0 0 41))) := by kernel_rfl
noncomputable def PeelF_s1 {R : Type} (r : List ((Int × List Int) × ByteArray)) (z : Int) (c0 : Int → Option R) (c1 : Nat → (List ((Int × List Int) × ByteArray)) → List ByteArray → List Int → Nat → Nat → Option R) : Option R :=
  grd (okE r) <|
  br (((if mayB z r = true then 0 else 1) : Int) != 0)
    (c0 (if mayB z r = true then 0 else 1))
    (grd (decide (1 ≤ r.length) && decide (r.length ≤ 1000)) <|
    bnd (mkN z z 16) fun n2 =>
    bnd (mkN z z 8) fun n3 =>
    c1 r.length r (List.replicate n2 ByteArray.empty) (List.replicate n3 (0 : Int)) n2 n3)
theorem PeelF_s1_eq (fuel : Nat)  (r : List ((Int × List Int) × ByteArray)) (z : Int) : callN Tryd.prog mode12 T_cloneE fuel 41 [vI z, .lt (.pair (.pair (.int .i64) (.sl (.int .u64))) .str) r] [] = PeelF_s1 r z (fun a1 => some (.tup [.agg [vN, vN, vN], vI a1], [])) (fun a0 a2 a3 a4 n2 n3 => lpN qc17 (itX Tryd.prog mode12 T_cloneE fuel 3 18 8 7 (roundK (evC qc15) (evC qc12) (qc5 fuel) #[39] qc19 qc6)) 0 [0, 1] fuel ⟨[(0, .ptr 2 3 0 0), (1, .yl 7)], [qc4, qc8, (2, some ⟨144, .agg [.sl 3 3 0 a0, .sl 4 1 0 n2, .sl 5 1 0 n3], true⟩), (3, some ⟨72, .lt (.pair (.pair (.int .i64) (.sl (.int .u64))) .str) a2, true⟩), (4, some ⟨9, .ls a3, true⟩), (5, bL 3 a4), qc9, (7, none)], 8, none⟩ (kont (itX Tryd.prog mode12 T_cloneE fuel 3 18 8 7 (roundK (evC qc15) (evC qc12) (qc5 fuel) #[39] qc19 qc6)) (bodyOf Tryd.prog 97) [0] 0 (itE (behind ⟨qc6, [qc4, qc8, (2, some ⟨144, .agg [.sl 3 3 0 r.length, .sl 4 1 0 n2, .sl 5 1 0 n3], true⟩), (3, some ⟨72, .lt (.pair (.pair (.int .i64) (.sl (.int .u64))) .str) r, true⟩), (4, some ⟨9, .ls (List.replicate n2 ByteArray.empty), true⟩), (5, some ⟨3, vL (List.replicate n3 (0 : Int)), true⟩), qc9], 7, none⟩ (kont (qc5 fuel) qc7 [1, 1, 1, 1, 0, 1, 0] 48 (endK Tryd.prog 0 0 41)))))) := by kernel_rfl
noncomputable def PeelF {R : Type} (fuel : Nat) (z : Int) (r : List ((Int × List Int) × ByteArray)) (r0 : Int → Option R) (r1 : List Int → List ByteArray → (List ((Int × List Int) × ByteArray)) → Int → Option R) (r2 : List Int → List ByteArray → Int → Option R) (r3 : (List ((Int × List Int) × ByteArray)) → Int → Option R) : Option R :=
  (PeelF_s1 r z (fun a1 => r0 a1) (fun a0 a2 a3 a4 n2 n3 => (PeelF_l1 fuel n2 n3 r (fun x0 x1 x2 x3 => (PeelF_s5 n3 r n2 x0 x1 x2 x3 (fun a5 a6 => (PeelF_l3 fuel n3 x0 n2 x1 x2 x3 (fun x4 x5 x6 x7 => (PeelF_s8 x0 n2 n3 x1 x2 x3 x4 x5 x6 x7 (fun a7 a8 => (PeelF_l5 fuel x0 x4 x5 x6 x7 x1 (fun x8 x9 => (PeelF_s11 x6 x4 x7 x5 x9 x8 (fun a9 a10 a11 a12 => r1 a9 a10 a11 a12))) ((PeelF_s12 x6 x4 x7 x5 (fun a13 a14 a15 => r2 a13 a14 a15))) fuel a7 a8)))) ((PeelF_s13 x0 n2 n3 x1 x2 x3 (fun a16 a17 => (PeelF_l7 fuel x0 x1 (fun x10 x11 => (PeelF_s16 x11 x10 (fun a18 a19 => r3 a18 a19))) ((PeelF_s17 (fun a20 => r0 a20))) fuel a16 a17)))) fuel a5 a6)))) fuel a0 a2 a3 a4)))
theorem PeelF_eq (fuel : Nat) (z : Int) (r : List ((Int × List Int) × ByteArray)) : callN Tryd.prog mode12 T_cloneE fuel 41 [.s (.int .i64 z), .lt (.pair (.pair (.int .i64) (.sl (.int .u64))) .str) r] [] = PeelF fuel z r (fun z0 => some (.tup [.agg [.s (.slice none 0 0), .s (.slice none 0 0), .s (.slice none 0 0)], .s (.int .i64 z0)], [])) (fun z0 z1 z2 z3 => some (.tup [.agg [.li .i64 z0, .ls z1, .lt (.pair (.pair (.int .i64) (.sl (.int .u64))) .str) z2], .s (.int .i64 z3)], [])) (fun z0 z1 z2 => some (.tup [.agg [.li .i64 z0, .ls z1, .s (.slice none 0 0)], .s (.int .i64 z2)], [])) (fun z0 z1 => some (.tup [.agg [.s (.slice none 0 0), .s (.slice none 0 0), .lt (.pair (.pair (.int .i64) (.sl (.int .u64))) .str) z0], .s (.int .i64 z1)], [])) := by
  unfold PeelF
  exact (PeelF_s1_eq fuel  r z).trans (congr (congr (Eq.refl (PeelF_s1 (R := Out) r z)) (rfl)) (funext fun a0 => funext fun a1 => funext fun a2 => funext fun a3 => funext fun n2 => funext fun n3 => (PeelF_l1_eq fuel n2 n3 r (kont (itX Tryd.prog mode12 T_cloneE fuel 3 18 8 7 (roundK (evC qc15) (evC qc12) (qc5 fuel) #[39] qc19 qc6)) (bodyOf Tryd.prog 97) [0] 0 (itE (behind ⟨qc6, [qc4, qc8, (2, some ⟨144, .agg [.sl 3 3 0 r.length, .sl 4 1 0 n2, .sl 5 1 0 n3], true⟩), (3, some ⟨72, .lt (.pair (.pair (.int .i64) (.sl (.int .u64))) .str) r, true⟩), (4, some ⟨9, .ls (List.replicate n2 ByteArray.empty), true⟩), (5, some ⟨3, vL (List.replicate n3 (0 : Int)), true⟩), qc9], 7, none⟩ (kont (qc5 fuel) qc7 [1, 1, 1, 1, 0, 1, 0] 48 (endK Tryd.prog 0 0 41))))) fuel a0 a1 a2 a3).trans (congrFun (congrFun (congrFun (congrFun (congrFun (congr (Eq.refl (PeelF_l1 (R := Out) fuel n2 n3 r)) (funext fun x0 => funext fun x1 => funext fun x2 => funext fun x3 => (PeelF_s5_eq fuel  n3 r n2 x0 x1 x2 x3).trans (congr (Eq.refl (PeelF_s5 (R := Out) n3 r n2 x0 x1 x2 x3)) (funext fun a4 => funext fun a5 => (PeelF_l3_eq fuel n3 x0 n2 x1 x2 x3 (kont (qc5 fuel) qc7 [1, 1, 1, 1, 1, 1, 0, 1, 0] 48 (endK Tryd.prog 0 0 41)) fuel a4 a5).trans (congrFun (congrFun (congrFun (congr (congr (Eq.refl (PeelF_l3 (R := Out) fuel n3 x0 n2 x1 x2 x3)) (funext fun x4 => funext fun x5 => funext fun x6 => funext fun x7 => (PeelF_s8_eq fuel  x0 n2 n3 x1 x2 x3 x4 x5 x6 x7).trans (congr (Eq.refl (PeelF_s8 (R := Out) x0 n2 n3 x1 x2 x3 x4 x5 x6 x7)) (funext fun a6 => funext fun a7 => (PeelF_l5_eq fuel x0 x4 x5 x6 x7 x1 (kont (qc5 fuel) qc7 qc25 48 (endK Tryd.prog 0 0 41)) fuel a6 a7).trans (congrFun (congrFun (congrFun (congr (congr (Eq.refl (PeelF_l5 (R := Out) fuel x0 x4 x5 x6 x7 x1)) (funext fun x8 => funext fun x9 => (PeelF_s11_eq fuel  x6 x4 x7 x5 x9 x8))) ((PeelF_s12_eq fuel  x6 x4 x7 x5))) fuel) a6) a7))))) ((PeelF_s13_eq fuel  x0 n2 n3 x1 x2 x3).trans (congr (Eq.refl (PeelF_s13 (R := Out) x0 n2 n3 x1 x2 x3)) (funext fun a8 => funext fun a9 => (PeelF_l7_eq fuel x0 x1 (kont (qc5 fuel) qc7 qc25 48 (endK Tryd.prog 0 0 41)) fuel a8 a9).trans (congrFun (congrFun (congrFun (congr (congr (Eq.refl (PeelF_l7 (R := Out) fuel x0 x1)) (funext fun x10 => funext fun x11 => (PeelF_s16_eq fuel  x11 x10))) ((PeelF_s17_eq fuel  ))) fuel) a8) a9))))) fuel) a4) a5))))) fuel) a0) a1) a2) a3)))
theorem Peel_in {R : Type} (fuel : Nat) (n2 n3 : Nat) (w41 : List Eqn) (w42 : List ByteArray) (w43 : List Int) (r : List Eqn) (t : List ByteArray) (l : List Int) (i : Int) (s : ByteArray) (hx : r.length ≤ 64) (h1 : ∀ e, e ∈ r → okW e.1.2 = true ∧ okW (outE e i s).1.2 = true) (k0 : List Eqn → List ByteArray → List Int → Option R) : ∀ (k j : Nat), j ≤ r.length → r.length < j + k →
    PeelF_l2 fuel r.length n2 n3 w41 w42 w43 k0 k i s (r.length : Int) (j : Int) ((r.take j).map (fun e => outE e i s) ++ r.drop j) t l = k0 (r.map fun e => outE e i s) t l
  | 0, j, h2, h3 => by omega
  | k + 1, j, h2, h3 => by
    unfold PeelF_l2 PeelF_s3
    rw [br_if]
    by_cases hc : j < r.length
    · have hok : okE ((r.take j).map (fun e => outE e i s) ++ r.drop j) = true := okE_iff.2 fun e he => by
        rcases List.mem_append.1 he with he | he
        · obtain ⟨e0, he0, rfl⟩ := List.mem_map.1 he
          exact (h1 e0 (List.mem_of_mem_take he0)).2
        · exact (h1 e (List.mem_of_mem_drop he)).1
      rw [if_pos (by simpa using hc), grd_of (by rw [hok, mix_len _ (by omega)]; simp; omega), Int.toNat_natCast, mix_get _ hc, mix_set (fun e => outE e i s) hc, wrap_i64 (by omega) (by omega), show (j : Int) + 1 = ((j + 1 : Nat) : Int) by omega]
      exact Peel_in fuel n2 n3 w41 w42 w43 r t l i s hx h1 k0 k (j + 1) (by omega) (by omega)
    · have e : j = r.length := by omega
      subst e
      rw [if_neg (by simp), List.take_length, List.drop_length, List.append_nil]
theorem Peel_loop {R : Type} (fuel m : Nat) (hf : 64 < fuel) (r00 : List Eqn) (k0 : Nat → List Eqn → List ByteArray → List Int → Option R) : ∀ (f k : Nat) (r : List Eqn) (t : List ByteArray) (l : List Int), PInv (m : Int) r l → t.length = m → zeros l ≤ f → f < k → r.length ≤ 64 →
    PeelF_l1 fuel m m r00 k0 k r.length r t l = k0 r.length (peelN f r t l).1 (peelN f r t l).2.1 (peelN f r t l).2.2
  | f, 0, r, t, l, _, _, _, h, _ => by omega
  | f, k + 1, r, t, l, hI, ht, hz, hfk, hx => by
    obtain ⟨hm, hl, hr, hb⟩ := hI
    have hI : PInv (m : Int) r l := ⟨hm, hl, hr, hb⟩
    rw [Int.toNat_natCast] at hl
    unfold PeelF_l1 PeelF_s2
    rw [List.drop_zero, List.take_length, grd_of (by simp [hI.okE]; omega), br_if]
    rcases step_cases r with hs | ⟨j, hj, hs, h0⟩
    · rw [if_pos (by rw [hs]; decide), peel_stop (by rw [hs]; decide)]
    · have hmem := List.getElem_mem hj
      obtain ⟨g1, g2, g3⟩ := hr _ hmem
      obtain ⟨a1, a2, a3⟩ := hI.flag hj h0
      have hzs := zeros_set l _ a2 a3
      obtain ⟨i, hi⟩ : ∃ i : Nat, oneS (r[j]).1.1 (r[j]).1.2 = (i : Int) := ⟨(oneS (r[j]).1.1 (r[j]).1.2).toNat, by omega⟩
      rw [hi, Int.toNat_natCast] at a2 a3 hzs
      rw [hi] at a1 h0
      obtain ⟨f', rfl⟩ : ∃ f', f = f' + 1 := ⟨f - 1, by omega⟩
      have eb : below (stepS r) r.length = some j := by rw [hs, below_of (by omega) (by omega)]; rfl
      have er : r[0 + j]? = some r[j] := by rw [Nat.zero_add]; exact List.getElem?_eq_getElem hj
      have eo : below (oneS (r[j]).1.1 (r[j]).1.2) m = some i := by rw [hi, below_of (by omega) (by omega)]; rfl
      have et : t[0 + i]? = some (t[i]'(by omega)) := by rw [Nat.zero_add]; exact List.getElem?_eq_getElem (by omega)
      have el : l[0 + i]? = some (l[i]'a2) := by rw [Nat.zero_add]; exact List.getElem?_eq_getElem a2
      rw [if_neg (by rw [hs]; simp), bnd_of eb, bnd_of er, grd_of g2, bnd_of eb, bnd_of er, bnd_of eo, bnd_of et, bnd_of eo, bnd_of el, Nat.zero_add, hi]
      dsimp only
      have hin := Peel_in (R := R) fuel m m r t l r (t.set i (r[j]).2) (l.set i 1) (i : Int) (r[j]).2 hx (fun e he => by
        obtain ⟨b1, b2, b3⟩ := hr e he
        obtain ⟨⟨n, ws⟩, u⟩ := e
        have b1 : n = (m : Int) := b1
        subst b1
        exact ⟨b2, (out_spec (t := u) (s := (r[j]).2) b2 b3 h0 a1).2.1⟩)
      refine (hin _ fuel 0 (by omega) (by omega)).trans ?_
      unfold PeelF_s4
      have hlen : (r.map fun e => outE e (i : Int) (r[j]).2).length = r.length := List.length_map _
      have ih := Peel_loop fuel m hf r00 k0 f' k (r.map fun e => outE e (i : Int) (r[j]).2) (t.set i (r[j]).2) (l.set i 1) (by have := hI.step (r[j]).2 h0 a1; rwa [Int.toNat_natCast] at this) (by rw [List.length_set]; exact ht) (by omega) (by omega) (by rw [hlen]; exact hx)
      rw [hlen] at ih
      dsimp only
      rw [ih, peelN, if_neg (by rw [hs]; simp), hs, Int.toNat_natCast, getD_eqn hj, hi, Int.toNat_natCast]
theorem Peel_more {R : Type} (fuel m x136 : Nat) (x137 : List Eqn) (t : List ByteArray) (l : List Int) (hm : m ≤ 64) (ht : t.length = m) (hl : l.length = m) (k0 : Nat → Nat → List Int → List ByteArray → Option R) : ∀ (k j : Nat) (a : List Int) (b : List ByteArray), j ≤ m → m < j + k → a.length ≤ j → b.length ≤ j →
    PeelF_l4 fuel m (m : Int) x136 m x137 t l k0 k (j : Int) a.length b.length a b = k0 (a ++ placesFrom (l.drop j) j).length (b ++ toldFrom (l.drop j) (t.drop j)).length (a ++ placesFrom (l.drop j) j) (b ++ toldFrom (l.drop j) (t.drop j))
  | 0, j, a, b, h1, h2, _, _ => by omega
  | k + 1, j, a, b, h1, h2, ha, hb => by
    unfold PeelF_l4 PeelF_s7
    rw [br_if]
    by_cases hc : j < m
    · have hjl : j < l.length := by omega
      have hjt : j < t.length := by omega
      have eb : below (j : Int) m = some j := by rw [below_of (by omega) (by omega)]; rfl
      have el : l[0 + j]? = some l[j] := by rw [Nat.zero_add]; exact List.getElem?_eq_getElem hjl
      have et : t[0 + j]? = some t[j] := by rw [Nat.zero_add]; exact List.getElem?_eq_getElem hjt
      rw [if_pos (by simpa using hc), bnd_of eb, bnd_of el, br_if, List.drop_eq_getElem_cons hjl, List.drop_eq_getElem_cons hjt, placesFrom, toldFrom, wrap_i64 (by omega) (by omega), show (j : Int) + 1 = ((j + 1 : Nat) : Int) by omega]
      by_cases h : l[j] = 1
      · rw [if_pos (by simpa using h), if_pos h, if_pos h, grd_of (beq_self _), grd_of (okN_of (by omega) (by omega)), bnd_of eb, bnd_of et, grd_of (beq_self _), grd_of (okN_of (by omega) (by omega))]
        have := Peel_more fuel m x136 x137 t l hm ht hl k0 k (j + 1) (a ++ [(j : Int)]) (b ++ [t[j]]) (by omega) (by omega) (by simp; omega) (by simp; omega)
        rw [List.append_assoc, List.append_assoc] at this
        exact this
      · rw [if_neg (by simpa using h), if_neg h, if_neg h]
        exact Peel_more fuel m x136 x137 t l hm ht hl k0 k (j + 1) a b (by omega) (by omega) (by omega) (by omega)
    · rw [if_neg (by simpa using hc), List.drop_eq_nil_of_le (by omega), List.drop_eq_nil_of_le (by omega)]
      simp [placesFrom, toldFrom]
theorem Peel_first {R : Type} (fuel m x136 : Nat) (x137 : List Eqn) (t : List ByteArray) (l : List Int) (hm : m ≤ 64) (ht : t.length = m) (hl : l.length = m) (k0 : Nat → Nat → List Int → List ByteArray → Option R) (k1 : Option R) : ∀ (k j : Nat), j ≤ m → m < j + k →
    PeelF_l3 fuel m x136 m x137 t l k0 k1 k (m : Int) (j : Int) = if (placesFrom (l.drop j) j).length = 0 then k1 else k0 (placesFrom (l.drop j) j).length (toldFrom (l.drop j) (t.drop j)).length (placesFrom (l.drop j) j) (toldFrom (l.drop j) (t.drop j))
  | 0, j, h1, h2 => by omega
  | k + 1, j, h1, h2 => by
    unfold PeelF_l3 PeelF_s6
    rw [br_if]
    by_cases hc : j < m
    · have hjl : j < l.length := by omega
      have hjt : j < t.length := by omega
      have eb : below (j : Int) m = some j := by rw [below_of (by omega) (by omega)]; rfl
      have el : l[0 + j]? = some l[j] := by rw [Nat.zero_add]; exact List.getElem?_eq_getElem hjl
      have et : t[0 + j]? = some t[j] := by rw [Nat.zero_add]; exact List.getElem?_eq_getElem hjt
      rw [if_pos (by simpa using hc), bnd_of eb, bnd_of el, br_if, List.drop_eq_getElem_cons hjl, List.drop_eq_getElem_cons hjt, placesFrom, toldFrom, wrap_i64 (by omega) (by omega), show (j : Int) + 1 = ((j + 1 : Nat) : Int) by omega]
      by_cases h : l[j] = 1
      · rw [if_pos (by simpa using h), if_pos h, if_pos h, bnd_of eb, bnd_of et, if_neg (by simp)]
        by_cases hj0 : j = m
        · omega
        · cases k with
          | zero => omega
          | succ k =>
            exact Peel_more fuel m x136 x137 t l hm ht hl _ (k + 1) (j + 1) [(j : Int)] [t[j]] (by omega) (by omega) (by simp) (by simp)
      · rw [if_neg (by simpa using h), if_neg h, if_neg h]
        exact Peel_first fuel m x136 x137 t l hm ht hl k0 k1 k (j + 1) (by omega) (by omega)
    · rw [if_neg (by simpa using hc), List.drop_eq_nil_of_le (by omega), if_pos (by simp [placesFrom])]
theorem left_br {R : Type} (e : Eqn) (hs : e.2.size ≤ 64) (x y : Option R) : (if decide (((if rtS e.1.1 e.1.2 = true then (((plS e.1.2).length : Nat) : Int) else 0) : Int) > 0) = true then x else grd (decide (e.2.size ≤ 1000000000000)) (br (!(nought e.2)) x y)) = if leftB e = true then x else y := by
  rw [grd_of (by simp; omega), br_if, leftB_eq]
  unfold leftI
  by_cases h : 0 < (if rtS e.1.1 e.1.2 = true then (((plS e.1.2).length : Nat) : Int) else 0)
  · simp only [h, gt_iff_lt, decide_true, Bool.true_or, if_true]
  · simp only [h, gt_iff_lt, decide_false, Bool.false_or, Bool.false_eq_true, if_false]
theorem Peel_left6 {R : Type} (fuel : Nat) (x248 x249 : Nat) (x250 : List Int) (x251 : List ByteArray) (r : List Eqn) (hx : r.length ≤ 64) (hok : okE r = true) (hs : ∀ e, e ∈ r → e.2.size ≤ 64) (k0 : Nat → List Eqn → Option R) : ∀ (k j : Nat) (acc : List Eqn), j ≤ r.length → r.length < j + k → acc.length ≤ j →
    PeelF_l6 fuel r.length (r.length : Int) x248 x249 x250 x251 r k0 k (j : Int) acc.length acc = k0 (acc ++ (r.drop j).filter leftB).length (acc ++ (r.drop j).filter leftB)
  | 0, j, acc, h1, h2, _ => by omega
  | k + 1, j, acc, h1, h2, ha => by
    unfold PeelF_l6 PeelF_s10
    rw [br_if]
    by_cases hc : j < r.length
    · have hm := List.getElem_mem hc
      have eb : below (j : Int) r.length = some j := by rw [below_of (by omega) (by omega)]; rfl
      have er : r[0 + j]? = some r[j] := by rw [Nat.zero_add]; exact List.getElem?_eq_getElem hc
      rw [if_pos (by simpa using hc), bnd_of eb, bnd_of er, grd_of (okE_iff.1 hok _ hm), wrap_i64 (by omega) (by omega), show (j : Int) + 1 = ((j + 1 : Nat) : Int) by omega, grd_of (beq_self _), grd_of (okN_of (by omega) (by omega)), br_if, left_br _ (hs _ hm), List.drop_eq_getElem_cons hc]
      by_cases h : leftB r[j] = true
      · rw [if_pos h, List.filter_cons_of_pos h]
        have := Peel_left6 fuel x248 x249 x250 x251 r hx hok hs k0 k (j + 1) (acc ++ [r[j]]) (by omega) (by omega) (by simp; omega)
        rw [List.append_assoc] at this
        exact this
      · rw [if_neg h, List.filter_cons_of_neg h]
        exact Peel_left6 fuel x248 x249 x250 x251 r hx hok hs k0 k (j + 1) acc (by omega) (by omega) (by omega)
    · rw [if_neg (by simpa using hc), List.drop_eq_nil_of_le (by omega)]
      simp
theorem Peel_left5 {R : Type} (fuel : Nat) (x248 x249 : Nat) (x250 : List Int) (x251 : List ByteArray) (r : List Eqn) (hx : r.length ≤ 64) (hok : okE r = true) (hs : ∀ e, e ∈ r → e.2.size ≤ 64) (k0 : Nat → List Eqn → Option R) (k1 : Option R) : ∀ (k j : Nat), j ≤ r.length → r.length < j + k →
    PeelF_l5 fuel r.length x248 x249 x250 x251 r k0 k1 k (r.length : Int) (j : Int) = if ((r.drop j).filter leftB).length = 0 then k1 else k0 ((r.drop j).filter leftB).length ((r.drop j).filter leftB)
  | 0, j, h1, h2 => by omega
  | k + 1, j, h1, h2 => by
    unfold PeelF_l5 PeelF_s9
    rw [br_if]
    by_cases hc : j < r.length
    · have hm := List.getElem_mem hc
      have eb : below (j : Int) r.length = some j := by rw [below_of (by omega) (by omega)]; rfl
      have er : r[0 + j]? = some r[j] := by rw [Nat.zero_add]; exact List.getElem?_eq_getElem hc
      rw [if_pos (by simpa using hc), bnd_of eb, bnd_of er, grd_of (okE_iff.1 hok _ hm), wrap_i64 (by omega) (by omega), show (j : Int) + 1 = ((j + 1 : Nat) : Int) by omega, br_if, left_br _ (hs _ hm), List.drop_eq_getElem_cons hc]
      by_cases h : leftB r[j] = true
      · rw [if_pos h, List.filter_cons_of_pos h, if_neg (by simp)]
        cases k with
        | zero => omega
        | succ k => exact Peel_left6 fuel x248 x249 x250 x251 r hx hok hs _ (k + 1) (j + 1) [r[j]] (by omega) (by omega) (by simp)
      · rw [if_neg h, List.filter_cons_of_neg h]
        exact Peel_left5 fuel x248 x249 x250 x251 r hx hok hs k0 k1 k (j + 1) (by omega) (by omega)
    · rw [if_neg (by simpa using hc), List.drop_eq_nil_of_le (by omega)]
      simp
theorem Peel_left8 {R : Type} (fuel : Nat)  (r : List Eqn) (hx : r.length ≤ 64) (hok : okE r = true) (hs : ∀ e, e ∈ r → e.2.size ≤ 64) (k0 : Nat → List Eqn → Option R) : ∀ (k j : Nat) (acc : List Eqn), j ≤ r.length → r.length < j + k → acc.length ≤ j →
    PeelF_l8 fuel r.length (r.length : Int) r k0 k (j : Int) acc.length acc = k0 (acc ++ (r.drop j).filter leftB).length (acc ++ (r.drop j).filter leftB)
  | 0, j, acc, h1, h2, _ => by omega
  | k + 1, j, acc, h1, h2, ha => by
    unfold PeelF_l8 PeelF_s15
    rw [br_if]
    by_cases hc : j < r.length
    · have hm := List.getElem_mem hc
      have eb : below (j : Int) r.length = some j := by rw [below_of (by omega) (by omega)]; rfl
      have er : r[0 + j]? = some r[j] := by rw [Nat.zero_add]; exact List.getElem?_eq_getElem hc
      rw [if_pos (by simpa using hc), bnd_of eb, bnd_of er, grd_of (okE_iff.1 hok _ hm), wrap_i64 (by omega) (by omega), show (j : Int) + 1 = ((j + 1 : Nat) : Int) by omega, grd_of (beq_self _), grd_of (okN_of (by omega) (by omega)), br_if, left_br _ (hs _ hm), List.drop_eq_getElem_cons hc]
      by_cases h : leftB r[j] = true
      · rw [if_pos h, List.filter_cons_of_pos h]
        have := Peel_left8 fuel  r hx hok hs k0 k (j + 1) (acc ++ [r[j]]) (by omega) (by omega) (by simp; omega)
        rw [List.append_assoc] at this
        exact this
      · rw [if_neg h, List.filter_cons_of_neg h]
        exact Peel_left8 fuel  r hx hok hs k0 k (j + 1) acc (by omega) (by omega) (by omega)
    · rw [if_neg (by simpa using hc), List.drop_eq_nil_of_le (by omega)]
      simp
theorem Peel_left7 {R : Type} (fuel : Nat)  (r : List Eqn) (hx : r.length ≤ 64) (hok : okE r = true) (hs : ∀ e, e ∈ r → e.2.size ≤ 64) (k0 : Nat → List Eqn → Option R) (k1 : Option R) : ∀ (k j : Nat), j ≤ r.length → r.length < j + k →
    PeelF_l7 fuel r.length r k0 k1 k (r.length : Int) (j : Int) = if ((r.drop j).filter leftB).length = 0 then k1 else k0 ((r.drop j).filter leftB).length ((r.drop j).filter leftB)
  | 0, j, h1, h2 => by omega
  | k + 1, j, h1, h2 => by
    unfold PeelF_l7 PeelF_s14
    rw [br_if]
    by_cases hc : j < r.length
    · have hm := List.getElem_mem hc
      have eb : below (j : Int) r.length = some j := by rw [below_of (by omega) (by omega)]; rfl
      have er : r[0 + j]? = some r[j] := by rw [Nat.zero_add]; exact List.getElem?_eq_getElem hc
      rw [if_pos (by simpa using hc), bnd_of eb, bnd_of er, grd_of (okE_iff.1 hok _ hm), wrap_i64 (by omega) (by omega), show (j : Int) + 1 = ((j + 1 : Nat) : Int) by omega, br_if, left_br _ (hs _ hm), List.drop_eq_getElem_cons hc]
      by_cases h : leftB r[j] = true
      · rw [if_pos h, List.filter_cons_of_pos h, if_neg (by simp)]
        cases k with
        | zero => omega
        | succ k => exact Peel_left8 fuel  r hx hok hs _ (k + 1) (j + 1) [r[j]] (by omega) (by omega) (by simp)
      · rw [if_neg h, List.filter_cons_of_neg h]
        exact Peel_left7 fuel  r hx hok hs k0 k1 k (j + 1) (by omega) (by omega)
    · rw [if_neg (by simpa using hc), List.drop_eq_nil_of_le (by omega)]
      simp
theorem Peel_fact (z : Int) (r : List ((Int × List Int) × ByteArray)) (hg : (okE r && decide (1 ≤ r.length) && decide (r.length ≤ 1000)) = true) : Fact Tryd.prog gTab 41 [.s (.int .i64 z), .lt (.pair (.pair (.int .i64) (.sl (.int .u64))) .str) r] [] (.tup [.agg [.li .i64 (pAt z r), .ls (pTold z r), .lt (.pair (.pair (.int .i64) (.sl (.int .u64))) .str) ((pLeft z r) : List ((Int × List Int) × ByteArray))], .s (.int .i64 (if mayB z r = true then 0 else 1))], []) := by
  simp only [Bool.and_eq_true, decide_eq_true_eq] at hg
  obtain ⟨⟨hok, hl1⟩, hl2⟩ := hg
  by_cases hm : mayB z r = true
  · obtain ⟨⟨z1, z2⟩, hx, hr⟩ := mayB_iff.1 hm
    have hI := pinv_start hok hm
    obtain ⟨m, rfl⟩ : ∃ m : Nat, z = (m : Int) := ⟨z.toNat, by omega⟩
    rw [Int.toNat_natCast] at hI
    have hlp := peel_end (f := 64) hI (t := List.replicate m ByteArray.empty) (by simp)
    have hsz := peel_sizes (f := 64) (q := (r.headD noE).2.size) hI (t := List.replicate m ByteArray.empty) (by
      cases r with
      | nil => simp at hl1
      | cons e0 t0 => exact (hr e0 List.mem_cons_self).2.2.2) (fun e he => (hr e he).2.2.1)
    have hz := zeros_le (List.replicate m (0 : Int))
    rw [List.length_replicate] at hz
    have hloop := fun k0 => Peel_loop (R := Out) 70 m (by decide) r k0 64 70 r (List.replicate m ByteArray.empty) (List.replicate m 0) hI (by simp) (by omega) (by decide) hx
    have hE : pEnd (m : Int) r = peelN 64 r (List.replicate m ByteArray.empty) (List.replicate m 0) := by rw [pEnd_eq]; unfold pEndI; rw [Int.toNat_natCast]
    have hA : pAt (m : Int) r = placesFrom (peelN 64 r (List.replicate m ByteArray.empty) (List.replicate m 0)).2.2 0 := by rw [pAt_eq]; unfold pAtI; rw [if_pos hm, hE]
    have hT : pTold (m : Int) r = toldFrom (peelN 64 r (List.replicate m ByteArray.empty) (List.replicate m 0)).2.2 (peelN 64 r (List.replicate m ByteArray.empty) (List.replicate m 0)).2.1 := by rw [pTold_eq]; unfold pToldI; rw [if_pos hm, hE]
    have hL : pLeft (m : Int) r = (peelN 64 r (List.replicate m ByteArray.empty) (List.replicate m 0)).1.filter leftB := by rw [pLeft_eq]; unfold pLeftI; rw [if_pos hm, hE]
    rw [hA, hT, hL, if_pos hm]
    clear hA hT hL hE
    generalize peelN 64 r (List.replicate m ByteArray.empty) (List.replicate m 0) = q at *
    obtain ⟨r', t', l'⟩ := q
    obtain ⟨hJ, hrl, htl⟩ := hlp
    dsimp only at hJ hrl htl hsz hloop ⊢
    have hll : l'.length = m := by have := hJ.2.1; rwa [Int.toNat_natCast] at this
    have hok' := hJ.okE
    have hpl := places_len l' t' 0 (by omega)
    have hwalk : callN Tryd.prog mode12 T_cloneE 70 41 [.s (.int .i64 (m : Int)), .lt (.pair (.pair (.int .i64) (.sl (.int .u64))) .str) r] [] =
        if (placesFrom l' 0).length = 0 then (if (r'.filter leftB).length = 0 then some (.tup [.agg [.s (.slice none 0 0), .s (.slice none 0 0), .s (.slice none 0 0)], .s (.int .i64 0)], []) else some (.tup [.agg [.s (.slice none 0 0), .s (.slice none 0 0), .lt (.pair (.pair (.int .i64) (.sl (.int .u64))) .str) (r'.filter leftB : List Eqn)], .s (.int .i64 0)], []))
        else (if (r'.filter leftB).length = 0 then some (.tup [.agg [.li .i64 (placesFrom l' 0), .ls (toldFrom l' t'), .s (.slice none 0 0)], .s (.int .i64 0)], []) else some (.tup [.agg [.li .i64 (placesFrom l' 0), .ls (toldFrom l' t'), .lt (.pair (.pair (.int .i64) (.sl (.int .u64))) .str) (r'.filter leftB : List Eqn)], .s (.int .i64 0)], [])) := by
      rw [PeelF_eq]
      unfold PeelF PeelF_s1
      rw [grd_of hok, hm, if_pos rfl, br_if, if_neg (by decide), grd_of (by simp; omega), bnd_of (mkN_of (by omega) (by omega) (by omega)), bnd_of (mkN_of (by omega) (by omega) (by omega)), Int.toNat_natCast]
      dsimp only
      rw [hloop]
      unfold PeelF_s5
      have hfst := fun k0 k1 => Peel_first (R := Out) 70 m r.length r' t' l' (by omega) htl hll k0 k1 70 0 (by omega) (by omega)
      rw [List.drop_zero, List.drop_zero, show ((0 : Nat) : Int) = 0 from rfl] at hfst
      dsimp only
      rw [hfst]
      by_cases hp : (placesFrom l' 0).length = 0
      · rw [if_pos hp, if_pos hp]
        unfold PeelF_s13
        have h7 := fun k0 k1 => Peel_left7 (R := Out) 70 r' (by omega) hok' hsz k0 k1 70 0 (by omega) (by omega)
        rw [List.drop_zero, show ((0 : Nat) : Int) = 0 from rfl, hrl] at h7
        dsimp only
        rw [h7]
        by_cases hq : (r'.filter leftB).length = 0
        · rw [if_pos hq, if_pos hq]; rfl
        · rw [if_neg hq, if_neg hq]
          unfold PeelF_s16
          rw [List.drop_zero, List.take_length]
      · rw [if_neg hp, if_neg hp]
        unfold PeelF_s8
        have h5 := fun k0 k1 => Peel_left5 (R := Out) 70 (placesFrom l' 0).length (toldFrom l' t').length (placesFrom l' 0) (toldFrom l' t') r' (by omega) hok' hsz k0 k1 70 0 (by omega) (by omega)
        rw [List.drop_zero, show ((0 : Nat) : Int) = 0 from rfl, hrl] at h5
        dsimp only
        rw [h5]
        by_cases hq : (r'.filter leftB).length = 0
        · rw [if_pos hq, if_pos hq]
          unfold PeelF_s12
          rw [List.drop_zero, List.take_length, List.drop_zero, List.take_length]
        · rw [if_neg hq, if_neg hq]
          unfold PeelF_s11
          rw [List.drop_zero, List.take_length, List.drop_zero, List.take_length, List.drop_zero, List.take_length]
    by_cases hp : (placesFrom l' 0).length = 0
    · have hp2 : (toldFrom l' t').length = 0 := by omega
      rw [if_pos hp] at hwalk
      rw [List.eq_nil_of_length_eq_zero hp, List.eq_nil_of_length_eq_zero hp2]
      by_cases hq : (r'.filter leftB).length = 0
      · rw [if_pos hq] at hwalk
        rw [List.eq_nil_of_length_eq_zero hq]
        exact (callN_fact hN hM T_cloneE_ok hwalk).out fun _ _ _ x h => RV_tup_two (fun _ h => RVs_two (fun _ h => RV_agg_two (fun _ h => RVs_two (fun _ h => RV_nil_li h) (fun _ h => RVs_two (fun _ h => RV_nil_ls h) (fun _ h => RVs_two (fun _ h => RV_nil_sl (s := .pair (.pair (.int .i64) (.sl (.int .u64))) .str) h) (fun _ h => h) h) h) h) h) (fun _ h => h) h) h
      · rw [if_neg hq] at hwalk
        exact (callN_fact hN hM T_cloneE_ok hwalk).out fun _ _ _ x h => RV_tup_two (fun _ h => RVs_two (fun _ h => RV_agg_two (fun _ h => RVs_two (fun _ h => RV_nil_li h) (fun _ h => RVs_two (fun _ h => RV_nil_ls h) (fun _ h => h) h) h) h) (fun _ h => h) h) h
    · rw [if_neg hp] at hwalk
      by_cases hq : (r'.filter leftB).length = 0
      · rw [if_pos hq] at hwalk
        rw [List.eq_nil_of_length_eq_zero hq]
        exact (callN_fact hN hM T_cloneE_ok hwalk).out fun _ _ _ x h => RV_tup_two (fun _ h => RVs_two (fun _ h => RV_agg_two (fun _ h => RVs_two (fun _ h => h) (fun _ h => RVs_two (fun _ h => h) (fun _ h => RVs_two (fun _ h => RV_nil_sl (s := .pair (.pair (.int .i64) (.sl (.int .u64))) .str) h) (fun _ h => h) h) h) h) h) (fun _ h => h) h) h
      · rw [if_neg hq] at hwalk
        exact callN_fact hN hM T_cloneE_ok hwalk
  · have hA : pAt z r = [] := by rw [pAt_eq]; unfold pAtI; rw [if_neg hm]
    have hT : pTold z r = [] := by rw [pTold_eq]; unfold pToldI; rw [if_neg hm]
    have hL : pLeft z r = [] := by rw [pLeft_eq]; unfold pLeftI; rw [if_neg hm]
    rw [hA, hT, hL, if_neg hm]
    refine Fact.out (v := .tup [.agg [.s (.slice none 0 0), .s (.slice none 0 0), .s (.slice none 0 0)], .s (.int .i64 1)]) (bs' := []) ?_ (fun _ _ _ x h => RV_tup_two (fun _ h => RVs_two (fun _ h => RV_agg_two (fun _ h => RVs_two (fun _ h => RV_nil_li h) (fun _ h => RVs_two (fun _ h => RV_nil_ls h) (fun _ h => RVs_two (fun _ h => RV_nil_sl (s := .pair (.pair (.int .i64) (.sl (.int .u64))) .str) h) (fun _ h => h) h) h) h) h) (fun _ h => h) h) h)
    refine callN_fact hN hM T_cloneE_ok (n := 0) (mode := mode12) ?_
    rw [PeelF_eq]
    unfold PeelF PeelF_s1
    rw [grd_of hok, if_neg hm, br_if, if_pos (by decide)]
noncomputable def Peel_ent : List V → List Blk → Option (Bool × Out)
  | [.s (.int .i64 z), w0], [] => (asSl (.pair (.pair (.int .i64) (.sl (.int .u64))) .str) w0).bind fun r => some ((okE r && decide (1 ≤ r.length) && decide (r.length ≤ 1000)), (.tup [.agg [.li .i64 (pAt z r), .ls (pTold z r), .lt (.pair (.pair (.int .i64) (.sl (.int .u64))) .str) ((pLeft z r) : List ((Int × List Int) × ByteArray))], .s (.int .i64 (if mayB z r = true then 0 else 1))], []))
  | _, _ => none
theorem Peel_ok : ∀ args bs out, Peel_ent args bs = some (true, out) → Fact Tryd.prog gTab 41 args bs out := by
  intro args bs out h
  unfold Peel_ent at h
  split at h
  · rename_i z w0
    obtain ⟨r, h_r, h⟩ := Option.bind_eq_some_iff.1 h
    simp only [Option.some.injEq, Prod.mk.injEq] at h
    obtain ⟨hg, rfl⟩ := h
    exact (Peel_fact z r hg).args (fun _ _ _ => fun _ h => RVs_two (fun _ h => h) (fun _ h => RVs_two (fun _ h => RV_sl (s := (.pair (.pair (.int .i64) (.sl (.int .u64))) .str)) h_r h) (fun _ h => h) h) h)
  · cases h
noncomputable def T_Peel : Tbl := Tbl.cons 41 Peel_ent T_cloneE
theorem T_Peel_ok : CallOk Tryd.prog gTab T_Peel := cons_ok T_cloneE_ok Peel_ok
end Go.Proofs.YtfpdcfgjhkiklaaDoor
