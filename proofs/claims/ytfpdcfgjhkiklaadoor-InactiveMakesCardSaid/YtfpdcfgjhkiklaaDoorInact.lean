/- Columns that are put off: which of a row are active. -/
import Derived.Test.YtfpdcfgjhkiklaaDoorPmTab
import Derived.KernelRfl
import Derived.Test.YtfpdcfgjhkiklaaDoorProg
import Derived.Test.YtfpdcfgjhkiklaaDoorMCore
set_option autoImplicit false
set_option maxRecDepth 100000
set_option maxHeartbeats 4000000
set_option linter.unusedVariables false
set_option linter.unusedSimpArgs false
namespace Go.Proofs.YtfpdcfgjhkiklaaDoor
open Go Go.PM Go.Proofs Go.Shelf Go.PM.Row Go.PM.Bits Go.PM.Bit
/-! Columns that are put off. -/
def goneI (c : List Int) (i : Int) : Bool := decide (c.getD i.toNat 0 = 1)
noncomputable def goneB : List Int → Int → Bool := Classical.choose (⟨goneI, rfl⟩ : ∃ f, f = goneI)
theorem goneB_eq : goneB = goneI := Classical.choose_spec (⟨goneI, rfl⟩ : ∃ f, f = goneI)
noncomputable def keepI (c l : List Int) : List Int := l.filter fun i => !(goneB c i)
noncomputable def keepC : List Int → List Int → List Int := Classical.choose (⟨keepI, rfl⟩ : ∃ f, f = keepI)
theorem keepC_eq : keepC = keepI := Classical.choose_spec (⟨keepI, rfl⟩ : ∃ f, f = keepI)
noncomputable def goneFrom (c : List Int) : List Int → Int → Int
  | [], _ => -1
  | i :: t, j => if goneB c i = true then j else goneFrom c t (j + 1)
noncomputable def goneAtI (c l : List Int) : Int := goneFrom c l 0
noncomputable def goneAt : List Int → List Int → Int := Classical.choose (⟨goneAtI, rfl⟩ : ∃ f, f = goneAtI)
theorem goneAt_eq : goneAt = goneAtI := Classical.choose_spec (⟨goneAtI, rfl⟩ : ∃ f, f = goneAtI)
def delOkI (c l : List Int) : Bool := decide (l.length ≤ 1000) && l.all fun i => decide (0 ≤ i) && decide (i < (c.length : Int))
noncomputable def delOk : List Int → List Int → Bool := Classical.choose (⟨delOkI, rfl⟩ : ∃ f, f = delOkI)
theorem delOk_eq : delOk = delOkI := Classical.choose_spec (⟨delOkI, rfl⟩ : ∃ f, f = delOkI)
theorem delOk_iff {c l : List Int} : delOk c l = true ↔ l.length ≤ 1000 ∧ ∀ i, i ∈ l → 0 ≤ i ∧ i < (c.length : Int) := by rw [delOk_eq]; unfold delOkI; simp
theorem keep_nil (c : List Int) : keepC c [] = [] := by rw [keepC_eq]; rfl
theorem keep_snoc (c l : List Int) (i : Int) : keepC c (l ++ [i]) = keepC c l ++ if goneB c i = true then [] else [i] := by
  rw [keepC_eq]; unfold keepI
  rw [List.filter_append]
  by_cases h : goneB c i = true
  · rw [if_pos h, List.filter_cons_of_neg (by simp [h])]; rfl
  · rw [if_neg h, List.filter_cons_of_pos (by simp [h])]; rfl
theorem keep_len (c l : List Int) : (keepC c l).length ≤ l.length := by rw [keepC_eq]; exact List.length_filter_le _ _
theorem keep_cons (c t : List Int) (i : Int) : keepC c (i :: t) = if goneB c i = true then keepC c t else i :: keepC c t := by
  rw [keepC_eq]; unfold keepI
  by_cases h : goneB c i = true
  · rw [if_pos h, List.filter_cons_of_neg (by simp [h])]
  · rw [if_neg h, List.filter_cons_of_pos (by simp [h])]
theorem goneFrom_cases (c : List Int) : ∀ (t : List Int) (j : Int), (goneFrom c t j = -1 ∧ keepC c t = t) ∨ ∃ q, q < t.length ∧ goneFrom c t j = j + (q : Int) ∧ keepC c (t.take (q + 1)) = t.take q
  | [], j => .inl ⟨rfl, keep_nil c⟩
  | i :: t, j => by
    rw [goneFrom]
    by_cases h : goneB c i = true
    · rw [if_pos h]
      refine .inr ⟨0, by simp, by simp, ?_⟩
      show keepC c [i] = []
      rw [keep_cons, if_pos h, keep_nil]
    · rw [if_neg h]
      rcases goneFrom_cases c t (j + 1) with ⟨h1, h2⟩ | ⟨q, h1, h2, h3⟩
      · exact .inl ⟨h1, by rw [keep_cons, if_neg h, h2]⟩
      · refine .inr ⟨q + 1, by simp; omega, by rw [h2]; omega, ?_⟩
        rw [List.take_succ_cons, List.take_succ_cons, keep_cons, if_neg h, h3]
theorem gone_cases (c l : List Int) : (goneAt c l = -1 ∧ keepC c l = l) ∨ ∃ q, q < l.length ∧ goneAt c l = (q : Int) ∧ keepC c (l.take (q + 1)) = l.take q := by
  rw [goneAt_eq]; unfold goneAtI
  rcases goneFrom_cases c l 0 with h | ⟨q, h1, h2, h3⟩
  · exact .inl h
  · exact .inr ⟨q, h1, by rw [h2]; omega, h3⟩
/-- The active columns of a row. -/
noncomputable def actI (m : List Rw) (r c : List Int) (q : Int) : List Int := if r.getD q.toNat 0 = 1 then [] else keepC c (plS (m.getD q.toNat (0, [])).2)
noncomputable def actS : List Rw → List Int → List Int → Int → List Int := Classical.choose (⟨actI, rfl⟩ : ∃ f, f = actI)
theorem actS_eq : actS = actI := Classical.choose_spec (⟨actI, rfl⟩ : ∃ f, f = actI)
noncomputable def actOkI (n : Int) (m : List Rw) (r c : List Int) (q : Int) : Bool := okM m && mrt n m && decide (r.length = m.length) && decide ((c.length : Int) = n) && decide (0 ≤ q) && decide (q < (m.length : Int))
noncomputable def actOk : Int → List Rw → List Int → List Int → Int → Bool := Classical.choose (⟨actOkI, rfl⟩ : ∃ f, f = actOkI)
theorem actOk_eq : actOk = actOkI := Classical.choose_spec (⟨actOkI, rfl⟩ : ∃ f, f = actOkI)
theorem actOk_iff {n : Int} {m : List Rw} {r c : List Int} {q : Int} : actOk n m r c q = true ↔ okM m = true ∧ mrt n m = true ∧ r.length = m.length ∧ (c.length : Int) = n ∧ 0 ≤ q ∧ q < (m.length : Int) := by rw [actOk_eq]; unfold actOkI; simp [and_assoc]
theorem plc_le64 {n : Int} {ws : List Int} (hok : okW ws = true) (h : rtS n ws = true) (hn : n ≤ 64) : (plS ws).length ≤ 64 ∧ ∀ i, i ∈ plS ws → 0 ≤ i ∧ i < n := by
  rw [pl_plc hok h]
  have h0 := (rtS_iff.1 h).1.1
  constructor
  · unfold plc
    rw [List.length_map]
    exact Nat.le_trans (List.length_filter_le _ _) (by rw [List.length_range]; omega)
  · intro i hi
    obtain ⟨j, h1, h2, rfl⟩ := (mem_plc _ _ _).1 hi
    omega
/-- The place of the greatest count, the first one of several; -1: all are 0. -/
def mostFrom : List Int → Int → Int → Int → Int
  | [], _, at_, _ => at_
  | x :: t, j, at_, best => if x > best then mostFrom t (j + 1) j x else mostFrom t (j + 1) at_ best
def mostI (l : List Int) : Int := mostFrom l 0 (-1) 0
noncomputable def mostS : List Int → Int := Classical.choose (⟨mostI, rfl⟩ : ∃ f, f = mostI)
theorem mostS_eq : mostS = mostI := Classical.choose_spec (⟨mostI, rfl⟩ : ∃ f, f = mostI)
noncomputable def addL (cs l : List Int) : List Int := l.foldl (fun cs i => cs.set i.toNat (cs.getD i.toNat 0 + 1)) cs
noncomputable def oneFrom (m : List Rw) (r c : List Int) : Nat → Nat → Option Nat
  | 0, _ => none
  | d + 1, p => if (actS m r c (p : Int)).length = 1 then some p else oneFrom m r c d (p + 1)
noncomputable def cntFrom (m : List Rw) (r c : List Int) : Nat → Nat → List Int → List Int
  | 0, _, cs => cs
  | d + 1, p, cs => cntFrom m r c d (p + 1) (addL cs (actS m r c (p : Int)))
noncomputable def cntS (n : Int) (m : List Rw) (r c : List Int) : List Int := cntFrom m r c m.length 0 (List.replicate n.toNat 0)
abbrev Pln := List Int × List Int × List Int × List Int × List Int
/-- The plan that is made: Inactive, Rows, Columns; which rows are closed, which columns. -/
noncomputable def plnN (n : Int) (m : List Rw) : Nat → List Int → List Int → List Int → List Int → List Int → Pln
  | 0, a, b, d, r, c => (a, b, d, r, c)
  | f + 1, a, b, d, r, c => match oneFrom m r c m.length 0 with
    | some p => plnN n m f a (b ++ [(p : Int)]) (d ++ [(actS m r c (p : Int)).headD 0]) (r.set p 1) (c.set ((actS m r c (p : Int)).headD 0).toNat 1)
    | none => if mostS (cntS n m r c) < 0 then (a, b, d, r, c) else plnN n m f (a ++ [mostS (cntS n m r c)]) b d r (c.set (mostS (cntS n m r c)).toNat 1)
noncomputable def mkEndI (n : Int) (m : List Rw) : Pln := plnN n m 64 [] [] [] (List.replicate m.length 0) (List.replicate n.toNat 0)
noncomputable def mkEnd : Int → List Rw → Pln := Classical.choose (⟨mkEndI, rfl⟩ : ∃ f, f = mkEndI)
theorem mkEnd_eq : mkEnd = mkEndI := Classical.choose_spec (⟨mkEndI, rfl⟩ : ∃ f, f = mkEndI)
/-- The rows that are left. -/
def openFrom : List Int → Int → List Int
  | [], _ => []
  | x :: t, j => if x = 0 then j :: openFrom t (j + 1) else openFrom t (j + 1)
noncomputable def mkII (n : Int) (m : List Rw) : List Int := if mrt n m = true then (mkEnd n m).1 else []
noncomputable def mkI : Int → List Rw → List Int := Classical.choose (⟨mkII, rfl⟩ : ∃ f, f = mkII)
theorem mkI_eq : mkI = mkII := Classical.choose_spec (⟨mkII, rfl⟩ : ∃ f, f = mkII)
noncomputable def mkRI (n : Int) (m : List Rw) : List Int := if mrt n m = true then (mkEnd n m).2.1 else []
noncomputable def mkR : Int → List Rw → List Int := Classical.choose (⟨mkRI, rfl⟩ : ∃ f, f = mkRI)
theorem mkR_eq : mkR = mkRI := Classical.choose_spec (⟨mkRI, rfl⟩ : ∃ f, f = mkRI)
noncomputable def mkCI (n : Int) (m : List Rw) : List Int := if mrt n m = true then (mkEnd n m).2.2.1 else []
noncomputable def mkC : Int → List Rw → List Int := Classical.choose (⟨mkCI, rfl⟩ : ∃ f, f = mkCI)
theorem mkC_eq : mkC = mkCI := Classical.choose_spec (⟨mkCI, rfl⟩ : ∃ f, f = mkCI)
noncomputable def mkOI (n : Int) (m : List Rw) : List Int := if mrt n m = true then openFrom (mkEnd n m).2.2.2.1 0 else []
noncomputable def mkO : Int → List Rw → List Int := Classical.choose (⟨mkOI, rfl⟩ : ∃ f, f = mkOI)
theorem mkO_eq : mkO = mkOI := Classical.choose_spec (⟨mkOI, rfl⟩ : ∃ f, f = mkOI)
noncomputable def zeros0 (k : Nat) : List Int := List.replicate k 0
noncomputable def chNI (n : Int) (m : List Rw) : Int := if mrt n m = true then (if mostS (cntS n m (zeros0 m.length) (zeros0 n.toNat)) < 0 then 0 else mostS (cntS n m (zeros0 m.length) (zeros0 n.toNat))) else 0
noncomputable def chN : Int → List Rw → Int := Classical.choose (⟨chNI, rfl⟩ : ∃ f, f = chNI)
theorem chN_eq : chN = chNI := Classical.choose_spec (⟨chNI, rfl⟩ : ∃ f, f = chNI)
noncomputable def chEI (n : Int) (m : List Rw) : Int := if mrt n m = true then (if mostS (cntS n m (zeros0 m.length) (zeros0 n.toNat)) < 0 then 4 else 0) else 1
noncomputable def chE : Int → List Rw → Int := Classical.choose (⟨chEI, rfl⟩ : ∃ f, f = chEI)
theorem chE_eq : chE = chEI := Classical.choose_spec (⟨chEI, rfl⟩ : ∃ f, f = chEI)
def mode11 : FuncId → Nat := fun f => bif Nat.beq f 121 then 2 else bif Nat.beq f 111 then 2 else bif Nat.beq f 77 then 2 else bif Nat.beq f 125 then 2 else bif Nat.beq f 78 then 2 else bif Nat.beq f 26 then 2 else bif Nat.beq f 112 then 2 else bif Nat.beq f 57 then 3 else 0
/-! (*downpour/inactive.work).active$1 -/
noncomputable def act100F_s1 {R : Type} (i : Int) (n2 : Nat) (c : List Int) (n : Int) (m : List (Int × List Int)) (n1 : Nat) (r : List Int) (c0 : Bool → Nat → Int → (List (Int × List Int)) → Nat → Nat → Nat → Nat → List Int → List Int → Option R) : Option R :=
  bnd (below i n2) fun j1 =>
  bnd (c[(0 + j1)]?) fun e2 =>
  c0 (e2 == 1) 0 n m 0 n1 0 n2 r c
theorem act100F_s1_eq (fuel : Nat)  (i : Int) (n2 : Nat) (c : List Int) (n : Int) (m : List (Int × List Int)) (n1 : Nat) (r : List Int) : callN Tryd.prog mode11 T_refMRight fuel 112 [vI i, .ptr 0 1 0 0] [⟨98, .agg [.ptr 1 8 0 0], true⟩, ⟨100, .agg [vI n, vR m, .sl 2 1 0 n1, .sl 3 1 0 n2, vN, vN, vN, vN], true⟩, ⟨3, vL r, true⟩, ⟨3, vL c, true⟩] = act100F_s1 i n2 c n m n1 r (fun a3 a4 a5 a6 a7 a8 a9 a0 a1 a2 => some (vB a3, [some ⟨98, .agg [.ptr 1 8 a4 0], true⟩, some ⟨100, .agg [vI a5, vR a6, .sl 2 1 a7 a8, .sl 3 1 a9 a0, vN, vN, vN, vN], true⟩, bL 3 a1, bL 3 a2])) := by kernel_rfl
noncomputable def act100F {R : Type} (fuel : Nat) (i n : Int) (m : List (Int × List Int)) (n1 n2 : Nat) (r c : List Int) (r0 : Bool → Nat → Int → (List (Int × List Int)) → Nat → Nat → Nat → Nat → List Int → List Int → Option R) : Option R :=
  (act100F_s1 i n2 c n m n1 r (fun a3 a4 a5 a6 a7 a8 a9 a0 a1 a2 => r0 a3 a4 a5 a6 a7 a8 a9 a0 a1 a2))
theorem act100F_eq (fuel : Nat) (i n : Int) (m : List (Int × List Int)) (n1 n2 : Nat) (r c : List Int) : callN Tryd.prog mode11 T_refMRight fuel 112 [.s (.int .i64 i), .ptr 0 1 0 0] [⟨98, .agg [.ptr 1 8 0 0], true⟩, ⟨100, .agg [.s (.int .i64 n), .lt (.pair (.int .i64) (.sl (.int .u64))) m, .sl 2 1 0 n1, .sl 3 1 0 n2, .s (.slice none 0 0), .s (.slice none 0 0), .s (.slice none 0 0), .s (.slice none 0 0)], true⟩, ⟨3, .li .i64 r, true⟩, ⟨3, .li .i64 c, true⟩] = act100F fuel i n m n1 n2 r c (fun z0 z1 z2 z3 z4 z5 z6 z7 z8 z9 => some (.s (.bool z0), [some ⟨98, .agg [.ptr 1 8 z1 0], true⟩, some ⟨100, .agg [.s (.int .i64 z2), .lt (.pair (.int .i64) (.sl (.int .u64))) z3, .sl 2 1 z4 z5, .sl 3 1 z6 z7, .s (.slice none 0 0), .s (.slice none 0 0), .s (.slice none 0 0), .s (.slice none 0 0)], true⟩, some ⟨3, .li .i64 z8, true⟩, some ⟨3, .li .i64 z9, true⟩])) := by
  unfold act100F
  exact (act100F_s1_eq fuel  i n2 c n m n1 r)
theorem act100_fact (i : Int) (n : Int) (m : List (Int × List Int)) (n1 : Nat) (n2 : Nat) (r : List Int) (c : List Int) (hg : (decide (0 ≤ i) && decide (i < (c.length : Int)) && decide (n2 = c.length)) = true) : Fact Tryd.prog gTab 112 [.s (.int .i64 i), .ptr 0 1 0 0] [⟨98, .agg [.ptr 1 8 0 0], true⟩, ⟨100, .agg [.s (.int .i64 n), .lt (.pair (.int .i64) (.sl (.int .u64))) m, .sl 2 1 0 n1, .sl 3 1 0 n2, .s (.slice none 0 0), .s (.slice none 0 0), .s (.slice none 0 0), .s (.slice none 0 0)], true⟩, ⟨3, .li .i64 r, true⟩, ⟨3, .li .i64 c, true⟩] (.s (.bool (goneB c i)), [some ⟨98, .agg [.ptr 1 8 0 0], true⟩, some ⟨100, .agg [.s (.int .i64 n), .lt (.pair (.int .i64) (.sl (.int .u64))) m, .sl 2 1 0 n1, .sl 3 1 0 n2, .s (.slice none 0 0), .s (.slice none 0 0), .s (.slice none 0 0), .s (.slice none 0 0)], true⟩, some ⟨3, .li .i64 r, true⟩, some ⟨3, .li .i64 c, true⟩]) := by
  simp only [Bool.and_eq_true, decide_eq_true_eq] at hg
  obtain ⟨⟨h0, h1⟩, rfl⟩ := hg
  obtain ⟨j, rfl⟩ : ∃ j : Nat, i = (j : Int) := ⟨i.toNat, by omega⟩
  have hj : j < c.length := by omega
  refine callN_fact hN hM T_refMRight_ok (n := 0) (mode := mode11) ?_
  rw [act100F_eq]
  unfold act100F act100F_s1
  have eb : below (j : Int) c.length = some j := by rw [below_of (by omega) (by omega)]; rfl
  have ec : c[0 + j]? = some c[j] := by rw [Nat.zero_add]; exact List.getElem?_eq_getElem hj
  have e : goneB c (j : Int) = (c[j] == 1) := by
    rw [goneB_eq]; unfold goneI
    rw [Int.toNat_natCast, List.getD_eq_getElem?_getD, List.getElem?_eq_getElem hj]
    by_cases h : c[j] = 1 <;> simp [h]
  rw [bnd_of eb, bnd_of ec, e]
noncomputable def act100_ent : List V → List Blk → Option (Bool × Out)
  | [.s (.int .i64 i), .ptr 0 1 0 0], [⟨98, .agg [.ptr 1 8 0 0], true⟩, ⟨100, .agg [.s (.int .i64 n), .lt (.pair (.int .i64) (.sl (.int .u64))) m, .sl 2 1 0 n1, .sl 3 1 0 n2, .s (.slice none 0 0), .s (.slice none 0 0), .s (.slice none 0 0), .s (.slice none 0 0)], true⟩, ⟨3, .li .i64 r, true⟩, ⟨3, .li .i64 c, true⟩] => some ((decide (0 ≤ i) && decide (i < (c.length : Int)) && decide (n2 = c.length)), (.s (.bool (goneB c i)), [some ⟨98, .agg [.ptr 1 8 0 0], true⟩, some ⟨100, .agg [.s (.int .i64 n), .lt (.pair (.int .i64) (.sl (.int .u64))) m, .sl 2 1 0 n1, .sl 3 1 0 n2, .s (.slice none 0 0), .s (.slice none 0 0), .s (.slice none 0 0), .s (.slice none 0 0)], true⟩, some ⟨3, .li .i64 r, true⟩, some ⟨3, .li .i64 c, true⟩]))
  | _, _ => none
theorem act100_ok : ∀ args bs out, act100_ent args bs = some (true, out) → Fact Tryd.prog gTab 112 args bs out := by
  intro args bs out h
  unfold act100_ent at h
  split at h
  · rename_i i n m n1 n2 r c
    simp only [Option.some.injEq, Prod.mk.injEq] at h
    obtain ⟨hg, rfl⟩ := h
    exact act100_fact i n m n1 n2 r c hg
  · cases h
noncomputable def T_act100 : Tbl := Tbl.cons 112 act100_ent T_refMRight
theorem T_act100_ok : CallOk Tryd.prog gTab T_act100 := cons_ok T_refMRight_ok act100_ok
/-! (*downpour/inactive.work).active$1 -/
noncomputable def act101F_s1 {R : Type} (i : Int) (n2 : Nat) (c : List Int) (n : Int) (m : List (Int × List Int)) (n1 x2 x3 : Nat) (r pr pc : List Int) (c0 : Bool → Nat → Int → (List (Int × List Int)) → Nat → Nat → Nat → Nat → Nat → Nat → Nat → Nat → List Int → List Int → List Int → List Int → Option R) : Option R :=
  bnd (below i n2) fun j1 =>
  bnd (c[(0 + j1)]?) fun e2 =>
  c0 (e2 == 1) 0 n m 0 n1 0 n2 0 x2 0 x3 r c pr pc
theorem act101F_s1_eq (fuel : Nat)  (i : Int) (n2 : Nat) (c : List Int) (n : Int) (m : List (Int × List Int)) (n1 x2 x3 : Nat) (r pr pc : List Int) : callN Tryd.prog mode11 T_act100 fuel 112 [vI i, .ptr 0 1 0 0] [⟨98, .agg [.ptr 1 8 0 0], true⟩, ⟨100, .agg [vI n, vR m, .sl 2 1 0 n1, .sl 3 1 0 n2, vN, .sl 4 1 0 x2, .sl 5 1 0 x3, vN], true⟩, ⟨3, vL r, true⟩, ⟨3, vL c, true⟩, ⟨3, vL pr, true⟩, ⟨3, vL pc, true⟩] = act101F_s1 i n2 c n m n1 x2 x3 r pr pc (fun a3 a4 a5 a6 a7 a8 a9 a0 a1 a2 a13 a14 a15 a16 a17 a18 => some (vB a3, [some ⟨98, .agg [.ptr 1 8 a4 0], true⟩, some ⟨100, .agg [vI a5, vR a6, .sl 2 1 a7 a8, .sl 3 1 a9 a0, vN, .sl 4 1 a1 a2, .sl 5 1 a13 a14, vN], true⟩, bL 3 a15, bL 3 a16, bL 3 a17, bL 3 a18])) := by kernel_rfl
noncomputable def act101F {R : Type} (fuel : Nat) (i n : Int) (m : List (Int × List Int)) (n1 n2 x2 x3 : Nat) (r c pr pc : List Int) (r0 : Bool → Nat → Int → (List (Int × List Int)) → Nat → Nat → Nat → Nat → Nat → Nat → Nat → Nat → List Int → List Int → List Int → List Int → Option R) : Option R :=
  (act101F_s1 i n2 c n m n1 x2 x3 r pr pc (fun a3 a4 a5 a6 a7 a8 a9 a0 a1 a2 a13 a14 a15 a16 a17 a18 => r0 a3 a4 a5 a6 a7 a8 a9 a0 a1 a2 a13 a14 a15 a16 a17 a18))
theorem act101F_eq (fuel : Nat) (i n : Int) (m : List (Int × List Int)) (n1 n2 x2 x3 : Nat) (r c pr pc : List Int) : callN Tryd.prog mode11 T_act100 fuel 112 [.s (.int .i64 i), .ptr 0 1 0 0] [⟨98, .agg [.ptr 1 8 0 0], true⟩, ⟨100, .agg [.s (.int .i64 n), .lt (.pair (.int .i64) (.sl (.int .u64))) m, .sl 2 1 0 n1, .sl 3 1 0 n2, .s (.slice none 0 0), .sl 4 1 0 x2, .sl 5 1 0 x3, .s (.slice none 0 0)], true⟩, ⟨3, .li .i64 r, true⟩, ⟨3, .li .i64 c, true⟩, ⟨3, .li .i64 pr, true⟩, ⟨3, .li .i64 pc, true⟩] = act101F fuel i n m n1 n2 x2 x3 r c pr pc (fun z0 z1 z2 z3 z4 z5 z6 z7 z8 z9 z10 z11 z12 z13 z14 z15 => some (.s (.bool z0), [some ⟨98, .agg [.ptr 1 8 z1 0], true⟩, some ⟨100, .agg [.s (.int .i64 z2), .lt (.pair (.int .i64) (.sl (.int .u64))) z3, .sl 2 1 z4 z5, .sl 3 1 z6 z7, .s (.slice none 0 0), .sl 4 1 z8 z9, .sl 5 1 z10 z11, .s (.slice none 0 0)], true⟩, some ⟨3, .li .i64 z12, true⟩, some ⟨3, .li .i64 z13, true⟩, some ⟨3, .li .i64 z14, true⟩, some ⟨3, .li .i64 z15, true⟩])) := by
  unfold act101F
  exact (act101F_s1_eq fuel  i n2 c n m n1 x2 x3 r pr pc)
theorem act101_fact (i : Int) (n : Int) (m : List (Int × List Int)) (n1 : Nat) (n2 : Nat) (x2 : Nat) (x3 : Nat) (r : List Int) (c : List Int) (pr : List Int) (pc : List Int) (hg : (decide (0 ≤ i) && decide (i < (c.length : Int)) && decide (n2 = c.length)) = true) : Fact Tryd.prog gTab 112 [.s (.int .i64 i), .ptr 0 1 0 0] [⟨98, .agg [.ptr 1 8 0 0], true⟩, ⟨100, .agg [.s (.int .i64 n), .lt (.pair (.int .i64) (.sl (.int .u64))) m, .sl 2 1 0 n1, .sl 3 1 0 n2, .s (.slice none 0 0), .sl 4 1 0 x2, .sl 5 1 0 x3, .s (.slice none 0 0)], true⟩, ⟨3, .li .i64 r, true⟩, ⟨3, .li .i64 c, true⟩, ⟨3, .li .i64 pr, true⟩, ⟨3, .li .i64 pc, true⟩] (.s (.bool (goneB c i)), [some ⟨98, .agg [.ptr 1 8 0 0], true⟩, some ⟨100, .agg [.s (.int .i64 n), .lt (.pair (.int .i64) (.sl (.int .u64))) m, .sl 2 1 0 n1, .sl 3 1 0 n2, .s (.slice none 0 0), .sl 4 1 0 x2, .sl 5 1 0 x3, .s (.slice none 0 0)], true⟩, some ⟨3, .li .i64 r, true⟩, some ⟨3, .li .i64 c, true⟩, some ⟨3, .li .i64 pr, true⟩, some ⟨3, .li .i64 pc, true⟩]) := by
  simp only [Bool.and_eq_true, decide_eq_true_eq] at hg
  obtain ⟨⟨h0, h1⟩, rfl⟩ := hg
  obtain ⟨j, rfl⟩ : ∃ j : Nat, i = (j : Int) := ⟨i.toNat, by omega⟩
  have hj : j < c.length := by omega
  refine callN_fact hN hM T_act100_ok (n := 0) (mode := mode11) ?_
  rw [act101F_eq]
  unfold act101F act101F_s1
  have eb : below (j : Int) c.length = some j := by rw [below_of (by omega) (by omega)]; rfl
  have ec : c[0 + j]? = some c[j] := by rw [Nat.zero_add]; exact List.getElem?_eq_getElem hj
  have e : goneB c (j : Int) = (c[j] == 1) := by
    rw [goneB_eq]; unfold goneI
    rw [Int.toNat_natCast, List.getD_eq_getElem?_getD, List.getElem?_eq_getElem hj]
    by_cases h : c[j] = 1 <;> simp [h]
  rw [bnd_of eb, bnd_of ec, e]
noncomputable def act101_ent : List V → List Blk → Option (Bool × Out)
  | [.s (.int .i64 i), .ptr 0 1 0 0], [⟨98, .agg [.ptr 1 8 0 0], true⟩, ⟨100, .agg [.s (.int .i64 n), .lt (.pair (.int .i64) (.sl (.int .u64))) m, .sl 2 1 0 n1, .sl 3 1 0 n2, .s (.slice none 0 0), .sl 4 1 0 x2, .sl 5 1 0 x3, .s (.slice none 0 0)], true⟩, ⟨3, .li .i64 r, true⟩, ⟨3, .li .i64 c, true⟩, ⟨3, .li .i64 pr, true⟩, ⟨3, .li .i64 pc, true⟩] => some ((decide (0 ≤ i) && decide (i < (c.length : Int)) && decide (n2 = c.length)), (.s (.bool (goneB c i)), [some ⟨98, .agg [.ptr 1 8 0 0], true⟩, some ⟨100, .agg [.s (.int .i64 n), .lt (.pair (.int .i64) (.sl (.int .u64))) m, .sl 2 1 0 n1, .sl 3 1 0 n2, .s (.slice none 0 0), .sl 4 1 0 x2, .sl 5 1 0 x3, .s (.slice none 0 0)], true⟩, some ⟨3, .li .i64 r, true⟩, some ⟨3, .li .i64 c, true⟩, some ⟨3, .li .i64 pr, true⟩, some ⟨3, .li .i64 pc, true⟩]))
  | _, _ => none
theorem act101_ok : ∀ args bs out, act101_ent args bs = some (true, out) → Fact Tryd.prog gTab 112 args bs out := by
  intro args bs out h
  unfold act101_ent at h
  split at h
  · rename_i i n m n1 n2 x2 x3 r c pr pc
    simp only [Option.some.injEq, Prod.mk.injEq] at h
    obtain ⟨hg, rfl⟩ := h
    exact act101_fact i n m n1 n2 x2 x3 r c pr pc hg
  · cases h
noncomputable def T_act101 : Tbl := Tbl.cons 112 act101_ent T_act100
theorem T_act101_ok : CallOk Tryd.prog gTab T_act101 := cons_ok T_act100_ok act101_ok
/-! (*downpour/inactive.work).active$1 -/
noncomputable def act110F_s1 {R : Type} (i : Int) (n2 : Nat) (c : List Int) (n : Int) (m : List (Int × List Int)) (n1 x1 : Nat) (r pi : List Int) (c0 : Bool → Nat → Int → (List (Int × List Int)) → Nat → Nat → Nat → Nat → Nat → Nat → List Int → List Int → List Int → Option R) : Option R :=
  bnd (below i n2) fun j1 =>
  bnd (c[(0 + j1)]?) fun e2 =>
  c0 (e2 == 1) 0 n m 0 n1 0 n2 0 x1 r c pi
theorem act110F_s1_eq (fuel : Nat)  (i : Int) (n2 : Nat) (c : List Int) (n : Int) (m : List (Int × List Int)) (n1 x1 : Nat) (r pi : List Int) : callN Tryd.prog mode11 T_act101 fuel 112 [vI i, .ptr 0 1 0 0] [⟨98, .agg [.ptr 1 8 0 0], true⟩, ⟨100, .agg [vI n, vR m, .sl 2 1 0 n1, .sl 3 1 0 n2, .sl 4 1 0 x1, vN, vN, vN], true⟩, ⟨3, vL r, true⟩, ⟨3, vL c, true⟩, ⟨3, vL pi, true⟩] = act110F_s1 i n2 c n m n1 x1 r pi (fun a3 a4 a5 a6 a7 a8 a9 a0 a1 a2 a13 a14 a15 => some (vB a3, [some ⟨98, .agg [.ptr 1 8 a4 0], true⟩, some ⟨100, .agg [vI a5, vR a6, .sl 2 1 a7 a8, .sl 3 1 a9 a0, .sl 4 1 a1 a2, vN, vN, vN], true⟩, bL 3 a13, bL 3 a14, bL 3 a15])) := by kernel_rfl
noncomputable def act110F {R : Type} (fuel : Nat) (i n : Int) (m : List (Int × List Int)) (n1 n2 x1 : Nat) (r c pi : List Int) (r0 : Bool → Nat → Int → (List (Int × List Int)) → Nat → Nat → Nat → Nat → Nat → Nat → List Int → List Int → List Int → Option R) : Option R :=
  (act110F_s1 i n2 c n m n1 x1 r pi (fun a3 a4 a5 a6 a7 a8 a9 a0 a1 a2 a13 a14 a15 => r0 a3 a4 a5 a6 a7 a8 a9 a0 a1 a2 a13 a14 a15))
theorem act110F_eq (fuel : Nat) (i n : Int) (m : List (Int × List Int)) (n1 n2 x1 : Nat) (r c pi : List Int) : callN Tryd.prog mode11 T_act101 fuel 112 [.s (.int .i64 i), .ptr 0 1 0 0] [⟨98, .agg [.ptr 1 8 0 0], true⟩, ⟨100, .agg [.s (.int .i64 n), .lt (.pair (.int .i64) (.sl (.int .u64))) m, .sl 2 1 0 n1, .sl 3 1 0 n2, .sl 4 1 0 x1, .s (.slice none 0 0), .s (.slice none 0 0), .s (.slice none 0 0)], true⟩, ⟨3, .li .i64 r, true⟩, ⟨3, .li .i64 c, true⟩, ⟨3, .li .i64 pi, true⟩] = act110F fuel i n m n1 n2 x1 r c pi (fun z0 z1 z2 z3 z4 z5 z6 z7 z8 z9 z10 z11 z12 => some (.s (.bool z0), [some ⟨98, .agg [.ptr 1 8 z1 0], true⟩, some ⟨100, .agg [.s (.int .i64 z2), .lt (.pair (.int .i64) (.sl (.int .u64))) z3, .sl 2 1 z4 z5, .sl 3 1 z6 z7, .sl 4 1 z8 z9, .s (.slice none 0 0), .s (.slice none 0 0), .s (.slice none 0 0)], true⟩, some ⟨3, .li .i64 z10, true⟩, some ⟨3, .li .i64 z11, true⟩, some ⟨3, .li .i64 z12, true⟩])) := by
  unfold act110F
  exact (act110F_s1_eq fuel  i n2 c n m n1 x1 r pi)
theorem act110_fact (i : Int) (n : Int) (m : List (Int × List Int)) (n1 : Nat) (n2 : Nat) (x1 : Nat) (r : List Int) (c : List Int) (pi : List Int) (hg : (decide (0 ≤ i) && decide (i < (c.length : Int)) && decide (n2 = c.length)) = true) : Fact Tryd.prog gTab 112 [.s (.int .i64 i), .ptr 0 1 0 0] [⟨98, .agg [.ptr 1 8 0 0], true⟩, ⟨100, .agg [.s (.int .i64 n), .lt (.pair (.int .i64) (.sl (.int .u64))) m, .sl 2 1 0 n1, .sl 3 1 0 n2, .sl 4 1 0 x1, .s (.slice none 0 0), .s (.slice none 0 0), .s (.slice none 0 0)], true⟩, ⟨3, .li .i64 r, true⟩, ⟨3, .li .i64 c, true⟩, ⟨3, .li .i64 pi, true⟩] (.s (.bool (goneB c i)), [some ⟨98, .agg [.ptr 1 8 0 0], true⟩, some ⟨100, .agg [.s (.int .i64 n), .lt (.pair (.int .i64) (.sl (.int .u64))) m, .sl 2 1 0 n1, .sl 3 1 0 n2, .sl 4 1 0 x1, .s (.slice none 0 0), .s (.slice none 0 0), .s (.slice none 0 0)], true⟩, some ⟨3, .li .i64 r, true⟩, some ⟨3, .li .i64 c, true⟩, some ⟨3, .li .i64 pi, true⟩]) := by
  simp only [Bool.and_eq_true, decide_eq_true_eq] at hg
  obtain ⟨⟨h0, h1⟩, rfl⟩ := hg
  obtain ⟨j, rfl⟩ : ∃ j : Nat, i = (j : Int) := ⟨i.toNat, by omega⟩
  have hj : j < c.length := by omega
  refine callN_fact hN hM T_act101_ok (n := 0) (mode := mode11) ?_
  rw [act110F_eq]
  unfold act110F act110F_s1
  have eb : below (j : Int) c.length = some j := by rw [below_of (by omega) (by omega)]; rfl
  have ec : c[0 + j]? = some c[j] := by rw [Nat.zero_add]; exact List.getElem?_eq_getElem hj
  have e : goneB c (j : Int) = (c[j] == 1) := by
    rw [goneB_eq]; unfold goneI
    rw [Int.toNat_natCast, List.getD_eq_getElem?_getD, List.getElem?_eq_getElem hj]
    by_cases h : c[j] = 1 <;> simp [h]
  rw [bnd_of eb, bnd_of ec, e]
noncomputable def act110_ent : List V → List Blk → Option (Bool × Out)
  | [.s (.int .i64 i), .ptr 0 1 0 0], [⟨98, .agg [.ptr 1 8 0 0], true⟩, ⟨100, .agg [.s (.int .i64 n), .lt (.pair (.int .i64) (.sl (.int .u64))) m, .sl 2 1 0 n1, .sl 3 1 0 n2, .sl 4 1 0 x1, .s (.slice none 0 0), .s (.slice none 0 0), .s (.slice none 0 0)], true⟩, ⟨3, .li .i64 r, true⟩, ⟨3, .li .i64 c, true⟩, ⟨3, .li .i64 pi, true⟩] => some ((decide (0 ≤ i) && decide (i < (c.length : Int)) && decide (n2 = c.length)), (.s (.bool (goneB c i)), [some ⟨98, .agg [.ptr 1 8 0 0], true⟩, some ⟨100, .agg [.s (.int .i64 n), .lt (.pair (.int .i64) (.sl (.int .u64))) m, .sl 2 1 0 n1, .sl 3 1 0 n2, .sl 4 1 0 x1, .s (.slice none 0 0), .s (.slice none 0 0), .s (.slice none 0 0)], true⟩, some ⟨3, .li .i64 r, true⟩, some ⟨3, .li .i64 c, true⟩, some ⟨3, .li .i64 pi, true⟩]))
  | _, _ => none
theorem act110_ok : ∀ args bs out, act110_ent args bs = some (true, out) → Fact Tryd.prog gTab 112 args bs out := by
  intro args bs out h
  unfold act110_ent at h
  split at h
  · rename_i i n m n1 n2 x1 r c pi
    simp only [Option.some.injEq, Prod.mk.injEq] at h
    obtain ⟨hg, rfl⟩ := h
    exact act110_fact i n m n1 n2 x1 r c pi hg
  · cases h
noncomputable def T_act110 : Tbl := Tbl.cons 112 act110_ent T_act101
theorem T_act110_ok : CallOk Tryd.prog gTab T_act110 := cons_ok T_act101_ok act110_ok
/-! (*downpour/inactive.work).active$1 -/
noncomputable def act111F_s1 {R : Type} (i : Int) (n2 : Nat) (c : List Int) (n : Int) (m : List (Int × List Int)) (n1 x1 x2 x3 : Nat) (r pi pr pc : List Int) (c0 : Bool → Nat → Int → (List (Int × List Int)) → Nat → Nat → Nat → Nat → Nat → Nat → Nat → Nat → Nat → Nat → List Int → List Int → List Int → List Int → List Int → Option R) : Option R :=
  bnd (below i n2) fun j1 =>
  bnd (c[(0 + j1)]?) fun e2 =>
  c0 (e2 == 1) 0 n m 0 n1 0 n2 0 x1 0 x2 0 x3 r c pi pr pc
theorem act111F_s1_eq (fuel : Nat)  (i : Int) (n2 : Nat) (c : List Int) (n : Int) (m : List (Int × List Int)) (n1 x1 x2 x3 : Nat) (r pi pr pc : List Int) : callN Tryd.prog mode11 T_act110 fuel 112 [vI i, .ptr 0 1 0 0] [⟨98, .agg [.ptr 1 8 0 0], true⟩, ⟨100, .agg [vI n, vR m, .sl 2 1 0 n1, .sl 3 1 0 n2, .sl 4 1 0 x1, .sl 5 1 0 x2, .sl 6 1 0 x3, vN], true⟩, ⟨3, vL r, true⟩, ⟨3, vL c, true⟩, ⟨3, vL pi, true⟩, ⟨3, vL pr, true⟩, ⟨3, vL pc, true⟩] = act111F_s1 i n2 c n m n1 x1 x2 x3 r pi pr pc (fun a3 a4 a5 a6 a7 a8 a9 a0 a1 a2 a13 a14 a15 a16 a17 a18 a19 a20 a21 => some (vB a3, [some ⟨98, .agg [.ptr 1 8 a4 0], true⟩, some ⟨100, .agg [vI a5, vR a6, .sl 2 1 a7 a8, .sl 3 1 a9 a0, .sl 4 1 a1 a2, .sl 5 1 a13 a14, .sl 6 1 a15 a16, vN], true⟩, bL 3 a17, bL 3 a18, bL 3 a19, bL 3 a20, bL 3 a21])) := by kernel_rfl
noncomputable def act111F {R : Type} (fuel : Nat) (i n : Int) (m : List (Int × List Int)) (n1 n2 x1 x2 x3 : Nat) (r c pi pr pc : List Int) (r0 : Bool → Nat → Int → (List (Int × List Int)) → Nat → Nat → Nat → Nat → Nat → Nat → Nat → Nat → Nat → Nat → List Int → List Int → List Int → List Int → List Int → Option R) : Option R :=
  (act111F_s1 i n2 c n m n1 x1 x2 x3 r pi pr pc (fun a3 a4 a5 a6 a7 a8 a9 a0 a1 a2 a13 a14 a15 a16 a17 a18 a19 a20 a21 => r0 a3 a4 a5 a6 a7 a8 a9 a0 a1 a2 a13 a14 a15 a16 a17 a18 a19 a20 a21))
theorem act111F_eq (fuel : Nat) (i n : Int) (m : List (Int × List Int)) (n1 n2 x1 x2 x3 : Nat) (r c pi pr pc : List Int) : callN Tryd.prog mode11 T_act110 fuel 112 [.s (.int .i64 i), .ptr 0 1 0 0] [⟨98, .agg [.ptr 1 8 0 0], true⟩, ⟨100, .agg [.s (.int .i64 n), .lt (.pair (.int .i64) (.sl (.int .u64))) m, .sl 2 1 0 n1, .sl 3 1 0 n2, .sl 4 1 0 x1, .sl 5 1 0 x2, .sl 6 1 0 x3, .s (.slice none 0 0)], true⟩, ⟨3, .li .i64 r, true⟩, ⟨3, .li .i64 c, true⟩, ⟨3, .li .i64 pi, true⟩, ⟨3, .li .i64 pr, true⟩, ⟨3, .li .i64 pc, true⟩] = act111F fuel i n m n1 n2 x1 x2 x3 r c pi pr pc (fun z0 z1 z2 z3 z4 z5 z6 z7 z8 z9 z10 z11 z12 z13 z14 z15 z16 z17 z18 => some (.s (.bool z0), [some ⟨98, .agg [.ptr 1 8 z1 0], true⟩, some ⟨100, .agg [.s (.int .i64 z2), .lt (.pair (.int .i64) (.sl (.int .u64))) z3, .sl 2 1 z4 z5, .sl 3 1 z6 z7, .sl 4 1 z8 z9, .sl 5 1 z10 z11, .sl 6 1 z12 z13, .s (.slice none 0 0)], true⟩, some ⟨3, .li .i64 z14, true⟩, some ⟨3, .li .i64 z15, true⟩, some ⟨3, .li .i64 z16, true⟩, some ⟨3, .li .i64 z17, true⟩, some ⟨3, .li .i64 z18, true⟩])) := by
  unfold act111F
  exact (act111F_s1_eq fuel  i n2 c n m n1 x1 x2 x3 r pi pr pc)
theorem act111_fact (i : Int) (n : Int) (m : List (Int × List Int)) (n1 : Nat) (n2 : Nat) (x1 : Nat) (x2 : Nat) (x3 : Nat) (r : List Int) (c : List Int) (pi : List Int) (pr : List Int) (pc : List Int) (hg : (decide (0 ≤ i) && decide (i < (c.length : Int)) && decide (n2 = c.length)) = true) : Fact Tryd.prog gTab 112 [.s (.int .i64 i), .ptr 0 1 0 0] [⟨98, .agg [.ptr 1 8 0 0], true⟩, ⟨100, .agg [.s (.int .i64 n), .lt (.pair (.int .i64) (.sl (.int .u64))) m, .sl 2 1 0 n1, .sl 3 1 0 n2, .sl 4 1 0 x1, .sl 5 1 0 x2, .sl 6 1 0 x3, .s (.slice none 0 0)], true⟩, ⟨3, .li .i64 r, true⟩, ⟨3, .li .i64 c, true⟩, ⟨3, .li .i64 pi, true⟩, ⟨3, .li .i64 pr, true⟩, ⟨3, .li .i64 pc, true⟩] (.s (.bool (goneB c i)), [some ⟨98, .agg [.ptr 1 8 0 0], true⟩, some ⟨100, .agg [.s (.int .i64 n), .lt (.pair (.int .i64) (.sl (.int .u64))) m, .sl 2 1 0 n1, .sl 3 1 0 n2, .sl 4 1 0 x1, .sl 5 1 0 x2, .sl 6 1 0 x3, .s (.slice none 0 0)], true⟩, some ⟨3, .li .i64 r, true⟩, some ⟨3, .li .i64 c, true⟩, some ⟨3, .li .i64 pi, true⟩, some ⟨3, .li .i64 pr, true⟩, some ⟨3, .li .i64 pc, true⟩]) := by
  simp only [Bool.and_eq_true, decide_eq_true_eq] at hg
  obtain ⟨⟨h0, h1⟩, rfl⟩ := hg
  obtain ⟨j, rfl⟩ : ∃ j : Nat, i = (j : Int) := ⟨i.toNat, by omega⟩
  have hj : j < c.length := by omega
  refine callN_fact hN hM T_act110_ok (n := 0) (mode := mode11) ?_
  rw [act111F_eq]
  unfold act111F act111F_s1
  have eb : below (j : Int) c.length = some j := by rw [below_of (by omega) (by omega)]; rfl
  have ec : c[0 + j]? = some c[j] := by rw [Nat.zero_add]; exact List.getElem?_eq_getElem hj
  have e : goneB c (j : Int) = (c[j] == 1) := by
    rw [goneB_eq]; unfold goneI
    rw [Int.toNat_natCast, List.getD_eq_getElem?_getD, List.getElem?_eq_getElem hj]
    by_cases h : c[j] = 1 <;> simp [h]
  rw [bnd_of eb, bnd_of ec, e]
noncomputable def act111_ent : List V → List Blk → Option (Bool × Out)
  | [.s (.int .i64 i), .ptr 0 1 0 0], [⟨98, .agg [.ptr 1 8 0 0], true⟩, ⟨100, .agg [.s (.int .i64 n), .lt (.pair (.int .i64) (.sl (.int .u64))) m, .sl 2 1 0 n1, .sl 3 1 0 n2, .sl 4 1 0 x1, .sl 5 1 0 x2, .sl 6 1 0 x3, .s (.slice none 0 0)], true⟩, ⟨3, .li .i64 r, true⟩, ⟨3, .li .i64 c, true⟩, ⟨3, .li .i64 pi, true⟩, ⟨3, .li .i64 pr, true⟩, ⟨3, .li .i64 pc, true⟩] => some ((decide (0 ≤ i) && decide (i < (c.length : Int)) && decide (n2 = c.length)), (.s (.bool (goneB c i)), [some ⟨98, .agg [.ptr 1 8 0 0], true⟩, some ⟨100, .agg [.s (.int .i64 n), .lt (.pair (.int .i64) (.sl (.int .u64))) m, .sl 2 1 0 n1, .sl 3 1 0 n2, .sl 4 1 0 x1, .sl 5 1 0 x2, .sl 6 1 0 x3, .s (.slice none 0 0)], true⟩, some ⟨3, .li .i64 r, true⟩, some ⟨3, .li .i64 c, true⟩, some ⟨3, .li .i64 pi, true⟩, some ⟨3, .li .i64 pr, true⟩, some ⟨3, .li .i64 pc, true⟩]))
  | _, _ => none
theorem act111_ok : ∀ args bs out, act111_ent args bs = some (true, out) → Fact Tryd.prog gTab 112 args bs out := by
  intro args bs out h
  unfold act111_ent at h
  split at h
  · rename_i i n m n1 n2 x1 x2 x3 r c pi pr pc
    simp only [Option.some.injEq, Prod.mk.injEq] at h
    obtain ⟨hg, rfl⟩ := h
    exact act111_fact i n m n1 n2 x1 x2 x3 r c pi pr pc hg
  · cases h
noncomputable def T_act111 : Tbl := Tbl.cons 112 act111_ent T_act110
theorem T_act111_ok : CallOk Tryd.prog gTab T_act111 := cons_ok T_act110_ok act111_ok
/-! slices.IndexFunc[[]int,int] -/
noncomputable abbrev qb0 (l : List Int) (n : Int) (m : List (Int × List Int)) (n1 : Nat) (n2 : Nat) (r : List Int) (c : List Int) : List (Nat × Option Blk) := [(0, bL 3 l), (1, some ⟨98, .agg [.ptr 2 8 0 0], true⟩), (2, some ⟨100, .agg [vI n, vR m, .sl 3 1 0 n1, .sl 4 1 0 n2, vN, vN, vN, vN], true⟩), (3, bL 3 r), (4, bL 3 c)]
noncomputable abbrev qb1 (fuel : Nat) : Ctx Out := (fnX Tryd.prog mode11 T_act111 fuel 19 5)
noncomputable abbrev qb2 : Code := (bodyOf Tryd.prog 121)
noncomputable def idxC00F_s2 {R : Type} (w4 w5 : Int) (nl : Nat) (l c : List Int) (n2 : Nat) (n : Int) (m : List (Int × List Int)) (n1 : Nat) (r : List Int) (c0 : Int → Option R) (c1 : Int → Int → Option R) (c2 : Option R) : Option R :=
  br (decide (w4 < w5))
    (bnd (below w4 nl) fun j9 =>
    bnd (l[(0 + j9)]?) fun e0 =>
    grd (decide (0 ≤ e0) && decide (e0 < (c.length : Int)) && decide (n2 = c.length)) <|
    br (goneB c e0)
      (c0 w4)
      (c1 w5 (IntKind.i64.wrap (w4 + 1))))
    (c2)
theorem idxC00F_s2_eq (fuel k : Nat) (K : Ex → St → Option Out) (w4 w5 : Int) (nl : Nat) (l c : List Int) (n2 : Nat) (n : Int) (m : List (Int × List Int)) (n1 : Nat) (r : List Int) : lpN (sub qb2 [1, 0, 1, 0, 0]) (qb1 fuel) 16 [0, 1, 4, 7, 8] (k + 1) ⟨[(0, .sl 0 1 0 nl), (1, .fn (.func 112) [] [.ptr 1 1 0 0]), (4, vI 0), (7, vI w5), (8, vI w4)], (qb0 l n m n1 n2 r c), 5, none⟩ K = idxC00F_s2 w4 w5 nl l c n2 n m n1 r (fun a0 => K .ret ⟨[(4, vI a0)], (qb0 l n m n1 n2 r c), 5, none⟩) (fun a1 a2 => lpN (sub qb2 [1, 0, 1, 0, 0]) (qb1 fuel) 16 [0, 1, 4, 7, 8] k ⟨[(0, .sl 0 1 0 nl), (1, .fn (.func 112) [] [.ptr 1 1 0 0]), (4, vI 0), (7, vI a1), (8, vI a2)], (qb0 l n m n1 n2 r c), 5, none⟩ K) (K (.exit 0) ⟨[(4, vI 0)], (qb0 l n m n1 n2 r c), 5, none⟩) := by kernel_rfl
noncomputable def idxC00F_l1 {R : Type} (fuel nl : Nat) (l : List Int) (n : Int) (m : List (Int × List Int)) (n1 n2 : Nat) (r c : List Int) (k0 : Int → Option R) (k1 : Option R) : Nat → Int → Int → Option R
  | 0, _, _ => none
  | k + 1, w5, w4 =>
    (idxC00F_s2 w4 w5 nl l c n2 n m n1 r (fun a0 => k0 a0) (fun a1 a2 => ( idxC00F_l1 fuel nl l n m n1 n2 r c k0 k1 k a1 a2 )) (k1))
theorem idxC00F_l1_eq (fuel nl : Nat) (l : List Int) (n : Int) (m : List (Int × List Int)) (n1 n2 : Nat) (r c : List Int) (K : Ex → St → Option Out) : ∀ (k : Nat) (w5 w4 : Int), lpN (sub qb2 [1, 0, 1, 0, 0]) (qb1 fuel) 16 [0, 1, 4, 7, 8] k ⟨[(0, .sl 0 1 0 nl), (1, .fn (.func 112) [] [.ptr 1 1 0 0]), (4, vI 0), (7, vI w5), (8, vI w4)], (qb0 l n m n1 n2 r c), 5, none⟩ K = idxC00F_l1 fuel nl l n m n1 n2 r c (fun y8 => K .ret ⟨[(4, vI y8)], (qb0 l n m n1 n2 r c), 5, none⟩) (K (.exit 0) ⟨[(4, vI 0)], (qb0 l n m n1 n2 r c), 5, none⟩) k w5 w4
  | 0, _, _ => rfl
  | k + 1, w5, w4 => by
    unfold idxC00F_l1
    exact (idxC00F_s2_eq fuel k K w4 w5 nl l c n2 n m n1 r).trans (congr (congr (congr (Eq.refl (idxC00F_s2 (R := Out) w4 w5 nl l c n2 n m n1 r)) (rfl)) (funext fun a0 => funext fun a1 => idxC00F_l1_eq fuel nl l n m n1 n2 r c K k a0 a1)) (rfl))
noncomputable def idxC00F_s3 {R : Type} (x0 : Int) (l : List Int) (n : Int) (m : List (Int × List Int)) (n1 n2 : Nat) (r c : List Int) (c0 : Int → List Int → Nat → Int → (List (Int × List Int)) → Nat → Nat → Nat → Nat → List Int → List Int → Option R) : Option R :=
  c0 x0 l 0 n m 0 n1 0 n2 r c
theorem idxC00F_s3_eq (fuel : Nat)  (x0 : Int) (l : List Int) (n : Int) (m : List (Int × List Int)) (n1 n2 : Nat) (r c : List Int) : (kont (qb1 fuel) qb2 [1, 0, 1, 0] 16 (endK Tryd.prog 2 5 121)) .ret ⟨[(4, vI x0)], (qb0 l n m n1 n2 r c), 5, none⟩ = idxC00F_s3 x0 l n m n1 n2 r c (fun a0 a1 a2 a3 a4 a5 a6 a7 a8 a9 a27 => some (vI a0, [bL 3 a1, some ⟨98, .agg [.ptr 2 8 a2 0], true⟩, some ⟨100, .agg [vI a3, vR a4, .sl 3 1 a5 a6, .sl 4 1 a7 a8, vN, vN, vN, vN], true⟩, bL 3 a9, bL 3 a27])) := by kernel_rfl
noncomputable def idxC00F_s4 {R : Type} (l : List Int) (n : Int) (m : List (Int × List Int)) (n1 n2 : Nat) (r c : List Int) (c0 : Int → List Int → Nat → Int → (List (Int × List Int)) → Nat → Nat → Nat → Nat → List Int → List Int → Option R) : Option R :=
  c0 (-1) l 0 n m 0 n1 0 n2 r c
theorem idxC00F_s4_eq (fuel : Nat)  (l : List Int) (n : Int) (m : List (Int × List Int)) (n1 n2 : Nat) (r c : List Int) : (kont (qb1 fuel) qb2 [1, 0, 1, 0] 16 (endK Tryd.prog 2 5 121)) (.exit 0) ⟨[(4, vI 0)], (qb0 l n m n1 n2 r c), 5, none⟩ = idxC00F_s4 l n m n1 n2 r c (fun a0 a1 a2 a3 a4 a5 a6 a7 a8 a9 a38 => some (vI a0, [bL 3 a1, some ⟨98, .agg [.ptr 2 8 a2 0], true⟩, some ⟨100, .agg [vI a3, vR a4, .sl 3 1 a5 a6, .sl 4 1 a7 a8, vN, vN, vN, vN], true⟩, bL 3 a9, bL 3 a38])) := by kernel_rfl
noncomputable def idxC00F_s1 {R : Type} (nl : Nat) (l : List Int) (n : Int) (m : List (Int × List Int)) (n1 n2 : Nat) (r c : List Int) (c0 : Int → Int → Option R) : Option R :=
  c0 ((nl : Nat) : Int) 0
theorem idxC00F_s1_eq (fuel : Nat)  (nl : Nat) (l : List Int) (n : Int) (m : List (Int × List Int)) (n1 n2 : Nat) (r c : List Int) : callN Tryd.prog mode11 T_act111 fuel 121 [.sl 0 1 0 nl, .fn (.func 112) [] [.ptr 1 1 0 0]] [⟨3, vL l, true⟩, ⟨98, .agg [.ptr 2 8 0 0], true⟩, ⟨100, .agg [vI n, vR m, .sl 3 1 0 n1, .sl 4 1 0 n2, vN, vN, vN, vN], true⟩, ⟨3, vL r, true⟩, ⟨3, vL c, true⟩] = idxC00F_s1 nl l n m n1 n2 r c (fun a0 a1 => lpN (sub qb2 [1, 0, 1, 0, 0]) (qb1 fuel) 16 [0, 1, 4, 7, 8] fuel ⟨[(0, .sl 0 1 0 nl), (1, .fn (.func 112) [] [.ptr 1 1 0 0]), (4, vI 0), (7, vI a0), (8, vI a1)], (qb0 l n m n1 n2 r c), 5, none⟩ (kont (qb1 fuel) qb2 [1, 0, 1, 0] 16 (endK Tryd.prog 2 5 121))) := by kernel_rfl
noncomputable def idxC00F {R : Type} (fuel nl : Nat) (l : List Int) (n : Int) (m : List (Int × List Int)) (n1 n2 : Nat) (r c : List Int) (r0 : Int → List Int → Nat → Int → (List (Int × List Int)) → Nat → Nat → Nat → Nat → List Int → List Int → Option R) : Option R :=
  (idxC00F_s1 nl l n m n1 n2 r c (fun a0 a1 => (idxC00F_l1 fuel nl l n m n1 n2 r c (fun x0 => (idxC00F_s3 x0 l n m n1 n2 r c (fun a2 a3 a4 a5 a6 a7 a8 a9 a25 a26 a27 => r0 a2 a3 a4 a5 a6 a7 a8 a9 a25 a26 a27))) ((idxC00F_s4 l n m n1 n2 r c (fun a28 a29 a30 a31 a32 a33 a34 a35 a36 a37 a38 => r0 a28 a29 a30 a31 a32 a33 a34 a35 a36 a37 a38))) fuel a0 a1)))
theorem idxC00F_eq (fuel nl : Nat) (l : List Int) (n : Int) (m : List (Int × List Int)) (n1 n2 : Nat) (r c : List Int) : callN Tryd.prog mode11 T_act111 fuel 121 [.sl 0 1 0 nl, .fn (.func 112) [] [.ptr 1 1 0 0]] [⟨3, .li .i64 l, true⟩, ⟨98, .agg [.ptr 2 8 0 0], true⟩, ⟨100, .agg [.s (.int .i64 n), .lt (.pair (.int .i64) (.sl (.int .u64))) m, .sl 3 1 0 n1, .sl 4 1 0 n2, .s (.slice none 0 0), .s (.slice none 0 0), .s (.slice none 0 0), .s (.slice none 0 0)], true⟩, ⟨3, .li .i64 r, true⟩, ⟨3, .li .i64 c, true⟩] = idxC00F fuel nl l n m n1 n2 r c (fun z0 z1 z2 z3 z4 z5 z6 z7 z8 z9 z10 => some (.s (.int .i64 z0), [some ⟨3, .li .i64 z1, true⟩, some ⟨98, .agg [.ptr 2 8 z2 0], true⟩, some ⟨100, .agg [.s (.int .i64 z3), .lt (.pair (.int .i64) (.sl (.int .u64))) z4, .sl 3 1 z5 z6, .sl 4 1 z7 z8, .s (.slice none 0 0), .s (.slice none 0 0), .s (.slice none 0 0), .s (.slice none 0 0)], true⟩, some ⟨3, .li .i64 z9, true⟩, some ⟨3, .li .i64 z10, true⟩])) := by
  unfold idxC00F
  exact (idxC00F_s1_eq fuel  nl l n m n1 n2 r c).trans (congr (Eq.refl (idxC00F_s1 (R := Out) nl l n m n1 n2 r c)) (funext fun a0 => funext fun a1 => (idxC00F_l1_eq fuel nl l n m n1 n2 r c (kont (qb1 fuel) qb2 [1, 0, 1, 0] 16 (endK Tryd.prog 2 5 121)) fuel a0 a1).trans (congrFun (congrFun (congrFun (congr (congr (Eq.refl (idxC00F_l1 (R := Out) fuel nl l n m n1 n2 r c)) (funext fun x0 => (idxC00F_s3_eq fuel  x0 l n m n1 n2 r c))) ((idxC00F_s4_eq fuel  l n m n1 n2 r c))) fuel) a0) a1)))
theorem idxC00_loop {R : Type} (fuel : Nat) (nl : Nat) (l : List Int) (n : Int) (m : List (Int × List Int)) (n1 : Nat) (n2 : Nat) (r : List Int) (c : List Int) (hok : delOk c l = true) (hn : nl = l.length) (hc2 : n2 = c.length) (k0 : Int → Option R) (k1 : Option R) : ∀ (k j : Nat), j ≤ l.length → l.length < j + k → idxC00F_l1 fuel nl l n m n1 n2 r c k0 k1 k (l.length : Int) (j : Int) = if goneFrom c (l.drop j) (j : Int) = -1 then k1 else k0 (goneFrom c (l.drop j) (j : Int))
  | 0, j, h1, h2 => by omega
  | k + 1, j, h1, h2 => by
    obtain ⟨hx, hr⟩ := delOk_iff.1 hok
    unfold idxC00F_l1 idxC00F_s2
    rw [br_if]
    by_cases hc : j < l.length
    · have hw := hr _ (List.getElem_mem hc)
      have eb : below (j : Int) nl = some j := by rw [hn, below_of (by omega) (by omega)]; rfl
      have el : l[0 + j]? = some l[j] := by rw [Nat.zero_add]; exact List.getElem?_eq_getElem hc
      rw [if_pos (by simpa using hc), bnd_of eb, bnd_of el, grd_of (by simp; omega), br_if, List.drop_eq_getElem_cons hc, goneFrom, wrap_i64 (by omega) (by omega), show (j : Int) + 1 = ((j + 1 : Nat) : Int) by omega]
      dsimp only
      rw [idxC00_loop fuel nl l n m n1 n2 r c hok hn hc2 k0 k1 k (j + 1) (by omega) (by omega)]
      by_cases h : goneB c l[j] = true
      · rw [if_pos h, if_pos h, if_neg (by omega)]
      · rw [if_neg h, if_neg h]
    · rw [if_neg (by simpa using hc), List.drop_eq_nil_of_le (by omega)]
      rfl
theorem idxC00_fact (nl : Nat) (l : List Int) (n : Int) (m : List (Int × List Int)) (n1 : Nat) (n2 : Nat) (r : List Int) (c : List Int) (hg : (delOk c l && decide (nl = l.length) && decide (n2 = c.length)) = true) : Fact Tryd.prog gTab 121 [.sl 0 1 0 nl, .fn (.func 112) [] [.ptr 1 1 0 0]] [⟨3, .li .i64 l, true⟩, ⟨98, .agg [.ptr 2 8 0 0], true⟩, ⟨100, .agg [.s (.int .i64 n), .lt (.pair (.int .i64) (.sl (.int .u64))) m, .sl 3 1 0 n1, .sl 4 1 0 n2, .s (.slice none 0 0), .s (.slice none 0 0), .s (.slice none 0 0), .s (.slice none 0 0)], true⟩, ⟨3, .li .i64 r, true⟩, ⟨3, .li .i64 c, true⟩] (.s (.int .i64 (goneAt c l)), [some ⟨3, .li .i64 l, true⟩, some ⟨98, .agg [.ptr 2 8 0 0], true⟩, some ⟨100, .agg [.s (.int .i64 n), .lt (.pair (.int .i64) (.sl (.int .u64))) m, .sl 3 1 0 n1, .sl 4 1 0 n2, .s (.slice none 0 0), .s (.slice none 0 0), .s (.slice none 0 0), .s (.slice none 0 0)], true⟩, some ⟨3, .li .i64 r, true⟩, some ⟨3, .li .i64 c, true⟩]) := by
  simp only [Bool.and_eq_true, decide_eq_true_eq] at hg
  obtain ⟨⟨hok, hn⟩, hc2⟩ := hg
  have hx := (delOk_iff.1 hok).1
  refine callN_fact hN hM T_act111_ok (n := 1001) (mode := mode11) ?_
  rw [idxC00F_eq]
  unfold idxC00F idxC00F_s1
  dsimp only
  have hl := fun k0 k1 => idxC00_loop (R := Out) 1001 nl l n m n1 n2 r c hok hn hc2 k0 k1 1001 0 (by omega) (by omega)
  rw [← hn] at hl
  refine (hl _ _).trans ?_
  rw [List.drop_zero, goneAt_eq]
  unfold goneAtI idxC00F_s3 idxC00F_s4
  rw [show ((0 : Nat) : Int) = 0 from rfl]
  by_cases h : goneFrom c l 0 = -1
  · rw [if_pos h, h]
  · rw [if_neg h]
noncomputable def idxC00_ent : List V → List Blk → Option (Bool × Out)
  | [.sl 0 1 0 nl, .fn (.func 112) [] [.ptr 1 1 0 0]], [⟨3, .li .i64 l, true⟩, ⟨98, .agg [.ptr 2 8 0 0], true⟩, ⟨100, .agg [.s (.int .i64 n), .lt (.pair (.int .i64) (.sl (.int .u64))) m, .sl 3 1 0 n1, .sl 4 1 0 n2, .s (.slice none 0 0), .s (.slice none 0 0), .s (.slice none 0 0), .s (.slice none 0 0)], true⟩, ⟨3, .li .i64 r, true⟩, ⟨3, .li .i64 c, true⟩] => some ((delOk c l && decide (nl = l.length) && decide (n2 = c.length)), (.s (.int .i64 (goneAt c l)), [some ⟨3, .li .i64 l, true⟩, some ⟨98, .agg [.ptr 2 8 0 0], true⟩, some ⟨100, .agg [.s (.int .i64 n), .lt (.pair (.int .i64) (.sl (.int .u64))) m, .sl 3 1 0 n1, .sl 4 1 0 n2, .s (.slice none 0 0), .s (.slice none 0 0), .s (.slice none 0 0), .s (.slice none 0 0)], true⟩, some ⟨3, .li .i64 r, true⟩, some ⟨3, .li .i64 c, true⟩]))
  | _, _ => none
theorem idxC00_ok : ∀ args bs out, idxC00_ent args bs = some (true, out) → Fact Tryd.prog gTab 121 args bs out := by
  intro args bs out h
  unfold idxC00_ent at h
  split at h
  · rename_i nl l n m n1 n2 r c
    simp only [Option.some.injEq, Prod.mk.injEq] at h
    obtain ⟨hg, rfl⟩ := h
    exact idxC00_fact nl l n m n1 n2 r c hg
  · cases h
noncomputable def T_idxC00 : Tbl := Tbl.cons 121 idxC00_ent T_act111
theorem T_idxC00_ok : CallOk Tryd.prog gTab T_idxC00 := cons_ok T_act111_ok idxC00_ok
/-! slices.IndexFunc[[]int,int] -/
noncomputable abbrev qb3 (l : List Int) (n : Int) (m : List (Int × List Int)) (n1 : Nat) (n2 : Nat) (x2 : Nat) (x3 : Nat) (r : List Int) (c : List Int) (pr : List Int) (pc : List Int) : List (Nat × Option Blk) := [(0, bL 3 l), (1, some ⟨98, .agg [.ptr 2 8 0 0], true⟩), (2, some ⟨100, .agg [vI n, vR m, .sl 3 1 0 n1, .sl 4 1 0 n2, vN, .sl 5 1 0 x2, .sl 6 1 0 x3, vN], true⟩), (3, bL 3 r), (4, bL 3 c), (5, bL 3 pr), (6, bL 3 pc)]
noncomputable abbrev qb4 (fuel : Nat) : Ctx Out := (fnX Tryd.prog mode11 T_idxC00 fuel 19 7)
noncomputable abbrev qb5 : Code := (bodyOf Tryd.prog 121)
noncomputable def idxC01F_s2 {R : Type} (w4 w5 : Int) (nl : Nat) (l c : List Int) (n2 : Nat) (n : Int) (m : List (Int × List Int)) (n1 x2 x3 : Nat) (r pr pc : List Int) (c0 : Int → Option R) (c1 : Int → Int → Option R) (c2 : Option R) : Option R :=
  br (decide (w4 < w5))
    (bnd (below w4 nl) fun j9 =>
    bnd (l[(0 + j9)]?) fun e0 =>
    grd (decide (0 ≤ e0) && decide (e0 < (c.length : Int)) && decide (n2 = c.length)) <|
    br (goneB c e0)
      (c0 w4)
      (c1 w5 (IntKind.i64.wrap (w4 + 1))))
    (c2)
theorem idxC01F_s2_eq (fuel k : Nat) (K : Ex → St → Option Out) (w4 w5 : Int) (nl : Nat) (l c : List Int) (n2 : Nat) (n : Int) (m : List (Int × List Int)) (n1 x2 x3 : Nat) (r pr pc : List Int) : lpN (sub qb5 [1, 0, 1, 0, 0]) (qb4 fuel) 16 [0, 1, 4, 7, 8] (k + 1) ⟨[(0, .sl 0 1 0 nl), (1, .fn (.func 112) [] [.ptr 1 1 0 0]), (4, vI 0), (7, vI w5), (8, vI w4)], (qb3 l n m n1 n2 x2 x3 r c pr pc), 7, none⟩ K = idxC01F_s2 w4 w5 nl l c n2 n m n1 x2 x3 r pr pc (fun a0 => K .ret ⟨[(4, vI a0)], (qb3 l n m n1 n2 x2 x3 r c pr pc), 7, none⟩) (fun a1 a2 => lpN (sub qb5 [1, 0, 1, 0, 0]) (qb4 fuel) 16 [0, 1, 4, 7, 8] k ⟨[(0, .sl 0 1 0 nl), (1, .fn (.func 112) [] [.ptr 1 1 0 0]), (4, vI 0), (7, vI a1), (8, vI a2)], (qb3 l n m n1 n2 x2 x3 r c pr pc), 7, none⟩ K) (K (.exit 0) ⟨[(4, vI 0)], (qb3 l n m n1 n2 x2 x3 r c pr pc), 7, none⟩) := by kernel_rfl
noncomputable def idxC01F_l1 {R : Type} (fuel nl : Nat) (l : List Int) (n : Int) (m : List (Int × List Int)) (n1 n2 x2 x3 : Nat) (r c pr pc : List Int) (k0 : Int → Option R) (k1 : Option R) : Nat → Int → Int → Option R
  | 0, _, _ => none
  | k + 1, w5, w4 =>
    (idxC01F_s2 w4 w5 nl l c n2 n m n1 x2 x3 r pr pc (fun a0 => k0 a0) (fun a1 a2 => ( idxC01F_l1 fuel nl l n m n1 n2 x2 x3 r c pr pc k0 k1 k a1 a2 )) (k1))
theorem idxC01F_l1_eq (fuel nl : Nat) (l : List Int) (n : Int) (m : List (Int × List Int)) (n1 n2 x2 x3 : Nat) (r c pr pc : List Int) (K : Ex → St → Option Out) : ∀ (k : Nat) (w5 w4 : Int), lpN (sub qb5 [1, 0, 1, 0, 0]) (qb4 fuel) 16 [0, 1, 4, 7, 8] k ⟨[(0, .sl 0 1 0 nl), (1, .fn (.func 112) [] [.ptr 1 1 0 0]), (4, vI 0), (7, vI w5), (8, vI w4)], (qb3 l n m n1 n2 x2 x3 r c pr pc), 7, none⟩ K = idxC01F_l1 fuel nl l n m n1 n2 x2 x3 r c pr pc (fun y8 => K .ret ⟨[(4, vI y8)], (qb3 l n m n1 n2 x2 x3 r c pr pc), 7, none⟩) (K (.exit 0) ⟨[(4, vI 0)], (qb3 l n m n1 n2 x2 x3 r c pr pc), 7, none⟩) k w5 w4
  | 0, _, _ => rfl
  | k + 1, w5, w4 => by
    unfold idxC01F_l1
    exact (idxC01F_s2_eq fuel k K w4 w5 nl l c n2 n m n1 x2 x3 r pr pc).trans (congr (congr (congr (Eq.refl (idxC01F_s2 (R := Out) w4 w5 nl l c n2 n m n1 x2 x3 r pr pc)) (rfl)) (funext fun a0 => funext fun a1 => idxC01F_l1_eq fuel nl l n m n1 n2 x2 x3 r c pr pc K k a0 a1)) (rfl))
noncomputable def idxC01F_s3 {R : Type} (x0 : Int) (l : List Int) (n : Int) (m : List (Int × List Int)) (n1 n2 x2 x3 : Nat) (r c pr pc : List Int) (c0 : Int → List Int → Nat → Int → (List (Int × List Int)) → Nat → Nat → Nat → Nat → Nat → Nat → Nat → Nat → List Int → List Int → List Int → List Int → Option R) : Option R :=
  c0 x0 l 0 n m 0 n1 0 n2 0 x2 0 x3 r c pr pc
theorem idxC01F_s3_eq (fuel : Nat)  (x0 : Int) (l : List Int) (n : Int) (m : List (Int × List Int)) (n1 n2 x2 x3 : Nat) (r c pr pc : List Int) : (kont (qb4 fuel) qb5 [1, 0, 1, 0] 16 (endK Tryd.prog 2 7 121)) .ret ⟨[(4, vI x0)], (qb3 l n m n1 n2 x2 x3 r c pr pc), 7, none⟩ = idxC01F_s3 x0 l n m n1 n2 x2 x3 r c pr pc (fun a0 a1 a2 a3 a4 a5 a6 a7 a8 a9 a27 a28 a29 a30 a31 a32 a33 => some (vI a0, [bL 3 a1, some ⟨98, .agg [.ptr 2 8 a2 0], true⟩, some ⟨100, .agg [vI a3, vR a4, .sl 3 1 a5 a6, .sl 4 1 a7 a8, vN, .sl 5 1 a9 a27, .sl 6 1 a28 a29, vN], true⟩, bL 3 a30, bL 3 a31, bL 3 a32, bL 3 a33])) := by kernel_rfl
noncomputable def idxC01F_s4 {R : Type} (l : List Int) (n : Int) (m : List (Int × List Int)) (n1 n2 x2 x3 : Nat) (r c pr pc : List Int) (c0 : Int → List Int → Nat → Int → (List (Int × List Int)) → Nat → Nat → Nat → Nat → Nat → Nat → Nat → Nat → List Int → List Int → List Int → List Int → Option R) : Option R :=
  c0 (-1) l 0 n m 0 n1 0 n2 0 x2 0 x3 r c pr pc
theorem idxC01F_s4_eq (fuel : Nat)  (l : List Int) (n : Int) (m : List (Int × List Int)) (n1 n2 x2 x3 : Nat) (r c pr pc : List Int) : (kont (qb4 fuel) qb5 [1, 0, 1, 0] 16 (endK Tryd.prog 2 7 121)) (.exit 0) ⟨[(4, vI 0)], (qb3 l n m n1 n2 x2 x3 r c pr pc), 7, none⟩ = idxC01F_s4 l n m n1 n2 x2 x3 r c pr pc (fun a0 a1 a2 a3 a4 a5 a6 a7 a8 a9 a44 a45 a46 a47 a48 a49 a50 => some (vI a0, [bL 3 a1, some ⟨98, .agg [.ptr 2 8 a2 0], true⟩, some ⟨100, .agg [vI a3, vR a4, .sl 3 1 a5 a6, .sl 4 1 a7 a8, vN, .sl 5 1 a9 a44, .sl 6 1 a45 a46, vN], true⟩, bL 3 a47, bL 3 a48, bL 3 a49, bL 3 a50])) := by kernel_rfl
noncomputable def idxC01F_s1 {R : Type} (nl : Nat) (l : List Int) (n : Int) (m : List (Int × List Int)) (n1 n2 x2 x3 : Nat) (r c pr pc : List Int) (c0 : Int → Int → Option R) : Option R :=
  c0 ((nl : Nat) : Int) 0
theorem idxC01F_s1_eq (fuel : Nat)  (nl : Nat) (l : List Int) (n : Int) (m : List (Int × List Int)) (n1 n2 x2 x3 : Nat) (r c pr pc : List Int) : callN Tryd.prog mode11 T_idxC00 fuel 121 [.sl 0 1 0 nl, .fn (.func 112) [] [.ptr 1 1 0 0]] [⟨3, vL l, true⟩, ⟨98, .agg [.ptr 2 8 0 0], true⟩, ⟨100, .agg [vI n, vR m, .sl 3 1 0 n1, .sl 4 1 0 n2, vN, .sl 5 1 0 x2, .sl 6 1 0 x3, vN], true⟩, ⟨3, vL r, true⟩, ⟨3, vL c, true⟩, ⟨3, vL pr, true⟩, ⟨3, vL pc, true⟩] = idxC01F_s1 nl l n m n1 n2 x2 x3 r c pr pc (fun a0 a1 => lpN (sub qb5 [1, 0, 1, 0, 0]) (qb4 fuel) 16 [0, 1, 4, 7, 8] fuel ⟨[(0, .sl 0 1 0 nl), (1, .fn (.func 112) [] [.ptr 1 1 0 0]), (4, vI 0), (7, vI a0), (8, vI a1)], (qb3 l n m n1 n2 x2 x3 r c pr pc), 7, none⟩ (kont (qb4 fuel) qb5 [1, 0, 1, 0] 16 (endK Tryd.prog 2 7 121))) := by kernel_rfl
noncomputable def idxC01F {R : Type} (fuel nl : Nat) (l : List Int) (n : Int) (m : List (Int × List Int)) (n1 n2 x2 x3 : Nat) (r c pr pc : List Int) (r0 : Int → List Int → Nat → Int → (List (Int × List Int)) → Nat → Nat → Nat → Nat → Nat → Nat → Nat → Nat → List Int → List Int → List Int → List Int → Option R) : Option R :=
  (idxC01F_s1 nl l n m n1 n2 x2 x3 r c pr pc (fun a0 a1 => (idxC01F_l1 fuel nl l n m n1 n2 x2 x3 r c pr pc (fun x0 => (idxC01F_s3 x0 l n m n1 n2 x2 x3 r c pr pc (fun a2 a3 a4 a5 a6 a7 a8 a9 a25 a26 a27 a28 a29 a30 a31 a32 a33 => r0 a2 a3 a4 a5 a6 a7 a8 a9 a25 a26 a27 a28 a29 a30 a31 a32 a33))) ((idxC01F_s4 l n m n1 n2 x2 x3 r c pr pc (fun a34 a35 a36 a37 a38 a39 a40 a41 a42 a43 a44 a45 a46 a47 a48 a49 a50 => r0 a34 a35 a36 a37 a38 a39 a40 a41 a42 a43 a44 a45 a46 a47 a48 a49 a50))) fuel a0 a1)))
theorem idxC01F_eq (fuel nl : Nat) (l : List Int) (n : Int) (m : List (Int × List Int)) (n1 n2 x2 x3 : Nat) (r c pr pc : List Int) : callN Tryd.prog mode11 T_idxC00 fuel 121 [.sl 0 1 0 nl, .fn (.func 112) [] [.ptr 1 1 0 0]] [⟨3, .li .i64 l, true⟩, ⟨98, .agg [.ptr 2 8 0 0], true⟩, ⟨100, .agg [.s (.int .i64 n), .lt (.pair (.int .i64) (.sl (.int .u64))) m, .sl 3 1 0 n1, .sl 4 1 0 n2, .s (.slice none 0 0), .sl 5 1 0 x2, .sl 6 1 0 x3, .s (.slice none 0 0)], true⟩, ⟨3, .li .i64 r, true⟩, ⟨3, .li .i64 c, true⟩, ⟨3, .li .i64 pr, true⟩, ⟨3, .li .i64 pc, true⟩] = idxC01F fuel nl l n m n1 n2 x2 x3 r c pr pc (fun z0 z1 z2 z3 z4 z5 z6 z7 z8 z9 z10 z11 z12 z13 z14 z15 z16 => some (.s (.int .i64 z0), [some ⟨3, .li .i64 z1, true⟩, some ⟨98, .agg [.ptr 2 8 z2 0], true⟩, some ⟨100, .agg [.s (.int .i64 z3), .lt (.pair (.int .i64) (.sl (.int .u64))) z4, .sl 3 1 z5 z6, .sl 4 1 z7 z8, .s (.slice none 0 0), .sl 5 1 z9 z10, .sl 6 1 z11 z12, .s (.slice none 0 0)], true⟩, some ⟨3, .li .i64 z13, true⟩, some ⟨3, .li .i64 z14, true⟩, some ⟨3, .li .i64 z15, true⟩, some ⟨3, .li .i64 z16, true⟩])) := by
  unfold idxC01F
  exact (idxC01F_s1_eq fuel  nl l n m n1 n2 x2 x3 r c pr pc).trans (congr (Eq.refl (idxC01F_s1 (R := Out) nl l n m n1 n2 x2 x3 r c pr pc)) (funext fun a0 => funext fun a1 => (idxC01F_l1_eq fuel nl l n m n1 n2 x2 x3 r c pr pc (kont (qb4 fuel) qb5 [1, 0, 1, 0] 16 (endK Tryd.prog 2 7 121)) fuel a0 a1).trans (congrFun (congrFun (congrFun (congr (congr (Eq.refl (idxC01F_l1 (R := Out) fuel nl l n m n1 n2 x2 x3 r c pr pc)) (funext fun x0 => (idxC01F_s3_eq fuel  x0 l n m n1 n2 x2 x3 r c pr pc))) ((idxC01F_s4_eq fuel  l n m n1 n2 x2 x3 r c pr pc))) fuel) a0) a1)))
theorem idxC01_loop {R : Type} (fuel : Nat) (nl : Nat) (l : List Int) (n : Int) (m : List (Int × List Int)) (n1 : Nat) (n2 : Nat) (x2 : Nat) (x3 : Nat) (r : List Int) (c : List Int) (pr : List Int) (pc : List Int) (hok : delOk c l = true) (hn : nl = l.length) (hc2 : n2 = c.length) (k0 : Int → Option R) (k1 : Option R) : ∀ (k j : Nat), j ≤ l.length → l.length < j + k → idxC01F_l1 fuel nl l n m n1 n2 x2 x3 r c pr pc k0 k1 k (l.length : Int) (j : Int) = if goneFrom c (l.drop j) (j : Int) = -1 then k1 else k0 (goneFrom c (l.drop j) (j : Int))
  | 0, j, h1, h2 => by omega
  | k + 1, j, h1, h2 => by
    obtain ⟨hx, hr⟩ := delOk_iff.1 hok
    unfold idxC01F_l1 idxC01F_s2
    rw [br_if]
    by_cases hc : j < l.length
    · have hw := hr _ (List.getElem_mem hc)
      have eb : below (j : Int) nl = some j := by rw [hn, below_of (by omega) (by omega)]; rfl
      have el : l[0 + j]? = some l[j] := by rw [Nat.zero_add]; exact List.getElem?_eq_getElem hc
      rw [if_pos (by simpa using hc), bnd_of eb, bnd_of el, grd_of (by simp; omega), br_if, List.drop_eq_getElem_cons hc, goneFrom, wrap_i64 (by omega) (by omega), show (j : Int) + 1 = ((j + 1 : Nat) : Int) by omega]
      dsimp only
      rw [idxC01_loop fuel nl l n m n1 n2 x2 x3 r c pr pc hok hn hc2 k0 k1 k (j + 1) (by omega) (by omega)]
      by_cases h : goneB c l[j] = true
      · rw [if_pos h, if_pos h, if_neg (by omega)]
      · rw [if_neg h, if_neg h]
    · rw [if_neg (by simpa using hc), List.drop_eq_nil_of_le (by omega)]
      rfl
theorem idxC01_fact (nl : Nat) (l : List Int) (n : Int) (m : List (Int × List Int)) (n1 : Nat) (n2 : Nat) (x2 : Nat) (x3 : Nat) (r : List Int) (c : List Int) (pr : List Int) (pc : List Int) (hg : (delOk c l && decide (nl = l.length) && decide (n2 = c.length)) = true) : Fact Tryd.prog gTab 121 [.sl 0 1 0 nl, .fn (.func 112) [] [.ptr 1 1 0 0]] [⟨3, .li .i64 l, true⟩, ⟨98, .agg [.ptr 2 8 0 0], true⟩, ⟨100, .agg [.s (.int .i64 n), .lt (.pair (.int .i64) (.sl (.int .u64))) m, .sl 3 1 0 n1, .sl 4 1 0 n2, .s (.slice none 0 0), .sl 5 1 0 x2, .sl 6 1 0 x3, .s (.slice none 0 0)], true⟩, ⟨3, .li .i64 r, true⟩, ⟨3, .li .i64 c, true⟩, ⟨3, .li .i64 pr, true⟩, ⟨3, .li .i64 pc, true⟩] (.s (.int .i64 (goneAt c l)), [some ⟨3, .li .i64 l, true⟩, some ⟨98, .agg [.ptr 2 8 0 0], true⟩, some ⟨100, .agg [.s (.int .i64 n), .lt (.pair (.int .i64) (.sl (.int .u64))) m, .sl 3 1 0 n1, .sl 4 1 0 n2, .s (.slice none 0 0), .sl 5 1 0 x2, .sl 6 1 0 x3, .s (.slice none 0 0)], true⟩, some ⟨3, .li .i64 r, true⟩, some ⟨3, .li .i64 c, true⟩, some ⟨3, .li .i64 pr, true⟩, some ⟨3, .li .i64 pc, true⟩]) := by
  simp only [Bool.and_eq_true, decide_eq_true_eq] at hg
  obtain ⟨⟨hok, hn⟩, hc2⟩ := hg
  have hx := (delOk_iff.1 hok).1
  refine callN_fact hN hM T_idxC00_ok (n := 1001) (mode := mode11) ?_
  rw [idxC01F_eq]
  unfold idxC01F idxC01F_s1
  dsimp only
  have hl := fun k0 k1 => idxC01_loop (R := Out) 1001 nl l n m n1 n2 x2 x3 r c pr pc hok hn hc2 k0 k1 1001 0 (by omega) (by omega)
  rw [← hn] at hl
  refine (hl _ _).trans ?_
  rw [List.drop_zero, goneAt_eq]
  unfold goneAtI idxC01F_s3 idxC01F_s4
  rw [show ((0 : Nat) : Int) = 0 from rfl]
  by_cases h : goneFrom c l 0 = -1
  · rw [if_pos h, h]
  · rw [if_neg h]
noncomputable def idxC01_ent : List V → List Blk → Option (Bool × Out)
  | [.sl 0 1 0 nl, .fn (.func 112) [] [.ptr 1 1 0 0]], [⟨3, .li .i64 l, true⟩, ⟨98, .agg [.ptr 2 8 0 0], true⟩, ⟨100, .agg [.s (.int .i64 n), .lt (.pair (.int .i64) (.sl (.int .u64))) m, .sl 3 1 0 n1, .sl 4 1 0 n2, .s (.slice none 0 0), .sl 5 1 0 x2, .sl 6 1 0 x3, .s (.slice none 0 0)], true⟩, ⟨3, .li .i64 r, true⟩, ⟨3, .li .i64 c, true⟩, ⟨3, .li .i64 pr, true⟩, ⟨3, .li .i64 pc, true⟩] => some ((delOk c l && decide (nl = l.length) && decide (n2 = c.length)), (.s (.int .i64 (goneAt c l)), [some ⟨3, .li .i64 l, true⟩, some ⟨98, .agg [.ptr 2 8 0 0], true⟩, some ⟨100, .agg [.s (.int .i64 n), .lt (.pair (.int .i64) (.sl (.int .u64))) m, .sl 3 1 0 n1, .sl 4 1 0 n2, .s (.slice none 0 0), .sl 5 1 0 x2, .sl 6 1 0 x3, .s (.slice none 0 0)], true⟩, some ⟨3, .li .i64 r, true⟩, some ⟨3, .li .i64 c, true⟩, some ⟨3, .li .i64 pr, true⟩, some ⟨3, .li .i64 pc, true⟩]))
  | _, _ => none
theorem idxC01_ok : ∀ args bs out, idxC01_ent args bs = some (true, out) → Fact Tryd.prog gTab 121 args bs out := by
  intro args bs out h
  unfold idxC01_ent at h
  split at h
  · rename_i nl l n m n1 n2 x2 x3 r c pr pc
    simp only [Option.some.injEq, Prod.mk.injEq] at h
    obtain ⟨hg, rfl⟩ := h
    exact idxC01_fact nl l n m n1 n2 x2 x3 r c pr pc hg
  · cases h
noncomputable def T_idxC01 : Tbl := Tbl.cons 121 idxC01_ent T_idxC00
theorem T_idxC01_ok : CallOk Tryd.prog gTab T_idxC01 := cons_ok T_idxC00_ok idxC01_ok
/-! slices.IndexFunc[[]int,int] -/
noncomputable abbrev qb6 (l : List Int) (n : Int) (m : List (Int × List Int)) (n1 : Nat) (n2 : Nat) (x1 : Nat) (r : List Int) (c : List Int) (pi : List Int) : List (Nat × Option Blk) := [(0, bL 3 l), (1, some ⟨98, .agg [.ptr 2 8 0 0], true⟩), (2, some ⟨100, .agg [vI n, vR m, .sl 3 1 0 n1, .sl 4 1 0 n2, .sl 5 1 0 x1, vN, vN, vN], true⟩), (3, bL 3 r), (4, bL 3 c), (5, bL 3 pi)]
noncomputable abbrev qb7 (fuel : Nat) : Ctx Out := (fnX Tryd.prog mode11 T_idxC01 fuel 19 6)
noncomputable abbrev qb8 : Code := (bodyOf Tryd.prog 121)
noncomputable def idxC10F_s2 {R : Type} (w4 w5 : Int) (nl : Nat) (l c : List Int) (n2 : Nat) (n : Int) (m : List (Int × List Int)) (n1 x1 : Nat) (r pi : List Int) (c0 : Int → Option R) (c1 : Int → Int → Option R) (c2 : Option R) : Option R :=
  br (decide (w4 < w5))
    (bnd (below w4 nl) fun j9 =>
    bnd (l[(0 + j9)]?) fun e0 =>
    grd (decide (0 ≤ e0) && decide (e0 < (c.length : Int)) && decide (n2 = c.length)) <|
    br (goneB c e0)
      (c0 w4)
      (c1 w5 (IntKind.i64.wrap (w4 + 1))))
    (c2)
theorem idxC10F_s2_eq (fuel k : Nat) (K : Ex → St → Option Out) (w4 w5 : Int) (nl : Nat) (l c : List Int) (n2 : Nat) (n : Int) (m : List (Int × List Int)) (n1 x1 : Nat) (r pi : List Int) : lpN (sub qb8 [1, 0, 1, 0, 0]) (qb7 fuel) 16 [0, 1, 4, 7, 8] (k + 1) ⟨[(0, .sl 0 1 0 nl), (1, .fn (.func 112) [] [.ptr 1 1 0 0]), (4, vI 0), (7, vI w5), (8, vI w4)], (qb6 l n m n1 n2 x1 r c pi), 6, none⟩ K = idxC10F_s2 w4 w5 nl l c n2 n m n1 x1 r pi (fun a0 => K .ret ⟨[(4, vI a0)], (qb6 l n m n1 n2 x1 r c pi), 6, none⟩) (fun a1 a2 => lpN (sub qb8 [1, 0, 1, 0, 0]) (qb7 fuel) 16 [0, 1, 4, 7, 8] k ⟨[(0, .sl 0 1 0 nl), (1, .fn (.func 112) [] [.ptr 1 1 0 0]), (4, vI 0), (7, vI a1), (8, vI a2)], (qb6 l n m n1 n2 x1 r c pi), 6, none⟩ K) (K (.exit 0) ⟨[(4, vI 0)], (qb6 l n m n1 n2 x1 r c pi), 6, none⟩) := by kernel_rfl
noncomputable def idxC10F_l1 {R : Type} (fuel nl : Nat) (l : List Int) (n : Int) (m : List (Int × List Int)) (n1 n2 x1 : Nat) (r c pi : List Int) (k0 : Int → Option R) (k1 : Option R) : Nat → Int → Int → Option R
  | 0, _, _ => none
  | k + 1, w5, w4 =>
    (idxC10F_s2 w4 w5 nl l c n2 n m n1 x1 r pi (fun a0 => k0 a0) (fun a1 a2 => ( idxC10F_l1 fuel nl l n m n1 n2 x1 r c pi k0 k1 k a1 a2 )) (k1))
theorem idxC10F_l1_eq (fuel nl : Nat) (l : List Int) (n : Int) (m : List (Int × List Int)) (n1 n2 x1 : Nat) (r c pi : List Int) (K : Ex → St → Option Out) : ∀ (k : Nat) (w5 w4 : Int), lpN (sub qb8 [1, 0, 1, 0, 0]) (qb7 fuel) 16 [0, 1, 4, 7, 8] k ⟨[(0, .sl 0 1 0 nl), (1, .fn (.func 112) [] [.ptr 1 1 0 0]), (4, vI 0), (7, vI w5), (8, vI w4)], (qb6 l n m n1 n2 x1 r c pi), 6, none⟩ K = idxC10F_l1 fuel nl l n m n1 n2 x1 r c pi (fun y8 => K .ret ⟨[(4, vI y8)], (qb6 l n m n1 n2 x1 r c pi), 6, none⟩) (K (.exit 0) ⟨[(4, vI 0)], (qb6 l n m n1 n2 x1 r c pi), 6, none⟩) k w5 w4
  | 0, _, _ => rfl
  | k + 1, w5, w4 => by
    unfold idxC10F_l1
    exact (idxC10F_s2_eq fuel k K w4 w5 nl l c n2 n m n1 x1 r pi).trans (congr (congr (congr (Eq.refl (idxC10F_s2 (R := Out) w4 w5 nl l c n2 n m n1 x1 r pi)) (rfl)) (funext fun a0 => funext fun a1 => idxC10F_l1_eq fuel nl l n m n1 n2 x1 r c pi K k a0 a1)) (rfl))
noncomputable def idxC10F_s3 {R : Type} (x0 : Int) (l : List Int) (n : Int) (m : List (Int × List Int)) (n1 n2 x1 : Nat) (r c pi : List Int) (c0 : Int → List Int → Nat → Int → (List (Int × List Int)) → Nat → Nat → Nat → Nat → Nat → Nat → List Int → List Int → List Int → Option R) : Option R :=
  c0 x0 l 0 n m 0 n1 0 n2 0 x1 r c pi
theorem idxC10F_s3_eq (fuel : Nat)  (x0 : Int) (l : List Int) (n : Int) (m : List (Int × List Int)) (n1 n2 x1 : Nat) (r c pi : List Int) : (kont (qb7 fuel) qb8 [1, 0, 1, 0] 16 (endK Tryd.prog 2 6 121)) .ret ⟨[(4, vI x0)], (qb6 l n m n1 n2 x1 r c pi), 6, none⟩ = idxC10F_s3 x0 l n m n1 n2 x1 r c pi (fun a0 a1 a2 a3 a4 a5 a6 a7 a8 a9 a27 a28 a29 a30 => some (vI a0, [bL 3 a1, some ⟨98, .agg [.ptr 2 8 a2 0], true⟩, some ⟨100, .agg [vI a3, vR a4, .sl 3 1 a5 a6, .sl 4 1 a7 a8, .sl 5 1 a9 a27, vN, vN, vN], true⟩, bL 3 a28, bL 3 a29, bL 3 a30])) := by kernel_rfl
noncomputable def idxC10F_s4 {R : Type} (l : List Int) (n : Int) (m : List (Int × List Int)) (n1 n2 x1 : Nat) (r c pi : List Int) (c0 : Int → List Int → Nat → Int → (List (Int × List Int)) → Nat → Nat → Nat → Nat → Nat → Nat → List Int → List Int → List Int → Option R) : Option R :=
  c0 (-1) l 0 n m 0 n1 0 n2 0 x1 r c pi
theorem idxC10F_s4_eq (fuel : Nat)  (l : List Int) (n : Int) (m : List (Int × List Int)) (n1 n2 x1 : Nat) (r c pi : List Int) : (kont (qb7 fuel) qb8 [1, 0, 1, 0] 16 (endK Tryd.prog 2 6 121)) (.exit 0) ⟨[(4, vI 0)], (qb6 l n m n1 n2 x1 r c pi), 6, none⟩ = idxC10F_s4 l n m n1 n2 x1 r c pi (fun a0 a1 a2 a3 a4 a5 a6 a7 a8 a9 a41 a42 a43 a44 => some (vI a0, [bL 3 a1, some ⟨98, .agg [.ptr 2 8 a2 0], true⟩, some ⟨100, .agg [vI a3, vR a4, .sl 3 1 a5 a6, .sl 4 1 a7 a8, .sl 5 1 a9 a41, vN, vN, vN], true⟩, bL 3 a42, bL 3 a43, bL 3 a44])) := by kernel_rfl
noncomputable def idxC10F_s1 {R : Type} (nl : Nat) (l : List Int) (n : Int) (m : List (Int × List Int)) (n1 n2 x1 : Nat) (r c pi : List Int) (c0 : Int → Int → Option R) : Option R :=
  c0 ((nl : Nat) : Int) 0
theorem idxC10F_s1_eq (fuel : Nat)  (nl : Nat) (l : List Int) (n : Int) (m : List (Int × List Int)) (n1 n2 x1 : Nat) (r c pi : List Int) : callN Tryd.prog mode11 T_idxC01 fuel 121 [.sl 0 1 0 nl, .fn (.func 112) [] [.ptr 1 1 0 0]] [⟨3, vL l, true⟩, ⟨98, .agg [.ptr 2 8 0 0], true⟩, ⟨100, .agg [vI n, vR m, .sl 3 1 0 n1, .sl 4 1 0 n2, .sl 5 1 0 x1, vN, vN, vN], true⟩, ⟨3, vL r, true⟩, ⟨3, vL c, true⟩, ⟨3, vL pi, true⟩] = idxC10F_s1 nl l n m n1 n2 x1 r c pi (fun a0 a1 => lpN (sub qb8 [1, 0, 1, 0, 0]) (qb7 fuel) 16 [0, 1, 4, 7, 8] fuel ⟨[(0, .sl 0 1 0 nl), (1, .fn (.func 112) [] [.ptr 1 1 0 0]), (4, vI 0), (7, vI a0), (8, vI a1)], (qb6 l n m n1 n2 x1 r c pi), 6, none⟩ (kont (qb7 fuel) qb8 [1, 0, 1, 0] 16 (endK Tryd.prog 2 6 121))) := by kernel_rfl
noncomputable def idxC10F {R : Type} (fuel nl : Nat) (l : List Int) (n : Int) (m : List (Int × List Int)) (n1 n2 x1 : Nat) (r c pi : List Int) (r0 : Int → List Int → Nat → Int → (List (Int × List Int)) → Nat → Nat → Nat → Nat → Nat → Nat → List Int → List Int → List Int → Option R) : Option R :=
  (idxC10F_s1 nl l n m n1 n2 x1 r c pi (fun a0 a1 => (idxC10F_l1 fuel nl l n m n1 n2 x1 r c pi (fun x0 => (idxC10F_s3 x0 l n m n1 n2 x1 r c pi (fun a2 a3 a4 a5 a6 a7 a8 a9 a25 a26 a27 a28 a29 a30 => r0 a2 a3 a4 a5 a6 a7 a8 a9 a25 a26 a27 a28 a29 a30))) ((idxC10F_s4 l n m n1 n2 x1 r c pi (fun a31 a32 a33 a34 a35 a36 a37 a38 a39 a40 a41 a42 a43 a44 => r0 a31 a32 a33 a34 a35 a36 a37 a38 a39 a40 a41 a42 a43 a44))) fuel a0 a1)))
theorem idxC10F_eq (fuel nl : Nat) (l : List Int) (n : Int) (m : List (Int × List Int)) (n1 n2 x1 : Nat) (r c pi : List Int) : callN Tryd.prog mode11 T_idxC01 fuel 121 [.sl 0 1 0 nl, .fn (.func 112) [] [.ptr 1 1 0 0]] [⟨3, .li .i64 l, true⟩, ⟨98, .agg [.ptr 2 8 0 0], true⟩, ⟨100, .agg [.s (.int .i64 n), .lt (.pair (.int .i64) (.sl (.int .u64))) m, .sl 3 1 0 n1, .sl 4 1 0 n2, .sl 5 1 0 x1, .s (.slice none 0 0), .s (.slice none 0 0), .s (.slice none 0 0)], true⟩, ⟨3, .li .i64 r, true⟩, ⟨3, .li .i64 c, true⟩, ⟨3, .li .i64 pi, true⟩] = idxC10F fuel nl l n m n1 n2 x1 r c pi (fun z0 z1 z2 z3 z4 z5 z6 z7 z8 z9 z10 z11 z12 z13 => some (.s (.int .i64 z0), [some ⟨3, .li .i64 z1, true⟩, some ⟨98, .agg [.ptr 2 8 z2 0], true⟩, some ⟨100, .agg [.s (.int .i64 z3), .lt (.pair (.int .i64) (.sl (.int .u64))) z4, .sl 3 1 z5 z6, .sl 4 1 z7 z8, .sl 5 1 z9 z10, .s (.slice none 0 0), .s (.slice none 0 0), .s (.slice none 0 0)], true⟩, some ⟨3, .li .i64 z11, true⟩, some ⟨3, .li .i64 z12, true⟩, some ⟨3, .li .i64 z13, true⟩])) := by
  unfold idxC10F
  exact (idxC10F_s1_eq fuel  nl l n m n1 n2 x1 r c pi).trans (congr (Eq.refl (idxC10F_s1 (R := Out) nl l n m n1 n2 x1 r c pi)) (funext fun a0 => funext fun a1 => (idxC10F_l1_eq fuel nl l n m n1 n2 x1 r c pi (kont (qb7 fuel) qb8 [1, 0, 1, 0] 16 (endK Tryd.prog 2 6 121)) fuel a0 a1).trans (congrFun (congrFun (congrFun (congr (congr (Eq.refl (idxC10F_l1 (R := Out) fuel nl l n m n1 n2 x1 r c pi)) (funext fun x0 => (idxC10F_s3_eq fuel  x0 l n m n1 n2 x1 r c pi))) ((idxC10F_s4_eq fuel  l n m n1 n2 x1 r c pi))) fuel) a0) a1)))
theorem idxC10_loop {R : Type} (fuel : Nat) (nl : Nat) (l : List Int) (n : Int) (m : List (Int × List Int)) (n1 : Nat) (n2 : Nat) (x1 : Nat) (r : List Int) (c : List Int) (pi : List Int) (hok : delOk c l = true) (hn : nl = l.length) (hc2 : n2 = c.length) (k0 : Int → Option R) (k1 : Option R) : ∀ (k j : Nat), j ≤ l.length → l.length < j + k → idxC10F_l1 fuel nl l n m n1 n2 x1 r c pi k0 k1 k (l.length : Int) (j : Int) = if goneFrom c (l.drop j) (j : Int) = -1 then k1 else k0 (goneFrom c (l.drop j) (j : Int))
  | 0, j, h1, h2 => by omega
  | k + 1, j, h1, h2 => by
    obtain ⟨hx, hr⟩ := delOk_iff.1 hok
    unfold idxC10F_l1 idxC10F_s2
    rw [br_if]
    by_cases hc : j < l.length
    · have hw := hr _ (List.getElem_mem hc)
      have eb : below (j : Int) nl = some j := by rw [hn, below_of (by omega) (by omega)]; rfl
      have el : l[0 + j]? = some l[j] := by rw [Nat.zero_add]; exact List.getElem?_eq_getElem hc
      rw [if_pos (by simpa using hc), bnd_of eb, bnd_of el, grd_of (by simp; omega), br_if, List.drop_eq_getElem_cons hc, goneFrom, wrap_i64 (by omega) (by omega), show (j : Int) + 1 = ((j + 1 : Nat) : Int) by omega]
      dsimp only
      rw [idxC10_loop fuel nl l n m n1 n2 x1 r c pi hok hn hc2 k0 k1 k (j + 1) (by omega) (by omega)]
      by_cases h : goneB c l[j] = true
      · rw [if_pos h, if_pos h, if_neg (by omega)]
      · rw [if_neg h, if_neg h]
    · rw [if_neg (by simpa using hc), List.drop_eq_nil_of_le (by omega)]
      rfl
theorem idxC10_fact (nl : Nat) (l : List Int) (n : Int) (m : List (Int × List Int)) (n1 : Nat) (n2 : Nat) (x1 : Nat) (r : List Int) (c : List Int) (pi : List Int) (hg : (delOk c l && decide (nl = l.length) && decide (n2 = c.length)) = true) : Fact Tryd.prog gTab 121 [.sl 0 1 0 nl, .fn (.func 112) [] [.ptr 1 1 0 0]] [⟨3, .li .i64 l, true⟩, ⟨98, .agg [.ptr 2 8 0 0], true⟩, ⟨100, .agg [.s (.int .i64 n), .lt (.pair (.int .i64) (.sl (.int .u64))) m, .sl 3 1 0 n1, .sl 4 1 0 n2, .sl 5 1 0 x1, .s (.slice none 0 0), .s (.slice none 0 0), .s (.slice none 0 0)], true⟩, ⟨3, .li .i64 r, true⟩, ⟨3, .li .i64 c, true⟩, ⟨3, .li .i64 pi, true⟩] (.s (.int .i64 (goneAt c l)), [some ⟨3, .li .i64 l, true⟩, some ⟨98, .agg [.ptr 2 8 0 0], true⟩, some ⟨100, .agg [.s (.int .i64 n), .lt (.pair (.int .i64) (.sl (.int .u64))) m, .sl 3 1 0 n1, .sl 4 1 0 n2, .sl 5 1 0 x1, .s (.slice none 0 0), .s (.slice none 0 0), .s (.slice none 0 0)], true⟩, some ⟨3, .li .i64 r, true⟩, some ⟨3, .li .i64 c, true⟩, some ⟨3, .li .i64 pi, true⟩]) := by
  simp only [Bool.and_eq_true, decide_eq_true_eq] at hg
  obtain ⟨⟨hok, hn⟩, hc2⟩ := hg
  have hx := (delOk_iff.1 hok).1
  refine callN_fact hN hM T_idxC01_ok (n := 1001) (mode := mode11) ?_
  rw [idxC10F_eq]
  unfold idxC10F idxC10F_s1
  dsimp only
  have hl := fun k0 k1 => idxC10_loop (R := Out) 1001 nl l n m n1 n2 x1 r c pi hok hn hc2 k0 k1 1001 0 (by omega) (by omega)
  rw [← hn] at hl
  refine (hl _ _).trans ?_
  rw [List.drop_zero, goneAt_eq]
  unfold goneAtI idxC10F_s3 idxC10F_s4
  rw [show ((0 : Nat) : Int) = 0 from rfl]
  by_cases h : goneFrom c l 0 = -1
  · rw [if_pos h, h]
  · rw [if_neg h]
noncomputable def idxC10_ent : List V → List Blk → Option (Bool × Out)
  | [.sl 0 1 0 nl, .fn (.func 112) [] [.ptr 1 1 0 0]], [⟨3, .li .i64 l, true⟩, ⟨98, .agg [.ptr 2 8 0 0], true⟩, ⟨100, .agg [.s (.int .i64 n), .lt (.pair (.int .i64) (.sl (.int .u64))) m, .sl 3 1 0 n1, .sl 4 1 0 n2, .sl 5 1 0 x1, .s (.slice none 0 0), .s (.slice none 0 0), .s (.slice none 0 0)], true⟩, ⟨3, .li .i64 r, true⟩, ⟨3, .li .i64 c, true⟩, ⟨3, .li .i64 pi, true⟩] => some ((delOk c l && decide (nl = l.length) && decide (n2 = c.length)), (.s (.int .i64 (goneAt c l)), [some ⟨3, .li .i64 l, true⟩, some ⟨98, .agg [.ptr 2 8 0 0], true⟩, some ⟨100, .agg [.s (.int .i64 n), .lt (.pair (.int .i64) (.sl (.int .u64))) m, .sl 3 1 0 n1, .sl 4 1 0 n2, .sl 5 1 0 x1, .s (.slice none 0 0), .s (.slice none 0 0), .s (.slice none 0 0)], true⟩, some ⟨3, .li .i64 r, true⟩, some ⟨3, .li .i64 c, true⟩, some ⟨3, .li .i64 pi, true⟩]))
  | _, _ => none
theorem idxC10_ok : ∀ args bs out, idxC10_ent args bs = some (true, out) → Fact Tryd.prog gTab 121 args bs out := by
  intro args bs out h
  unfold idxC10_ent at h
  split at h
  · rename_i nl l n m n1 n2 x1 r c pi
    simp only [Option.some.injEq, Prod.mk.injEq] at h
    obtain ⟨hg, rfl⟩ := h
    exact idxC10_fact nl l n m n1 n2 x1 r c pi hg
  · cases h
noncomputable def T_idxC10 : Tbl := Tbl.cons 121 idxC10_ent T_idxC01
theorem T_idxC10_ok : CallOk Tryd.prog gTab T_idxC10 := cons_ok T_idxC01_ok idxC10_ok
/-! slices.IndexFunc[[]int,int] -/
noncomputable abbrev qb9 (l : List Int) (n : Int) (m : List (Int × List Int)) (n1 : Nat) (n2 : Nat) (x1 : Nat) (x2 : Nat) (x3 : Nat) (r : List Int) (c : List Int) (pi : List Int) (pr : List Int) (pc : List Int) : List (Nat × Option Blk) := [(0, bL 3 l), (1, some ⟨98, .agg [.ptr 2 8 0 0], true⟩), (2, some ⟨100, .agg [vI n, vR m, .sl 3 1 0 n1, .sl 4 1 0 n2, .sl 5 1 0 x1, .sl 6 1 0 x2, .sl 7 1 0 x3, vN], true⟩), (3, bL 3 r), (4, bL 3 c), (5, bL 3 pi), (6, bL 3 pr), (7, bL 3 pc)]
noncomputable abbrev qb10 (fuel : Nat) : Ctx Out := (fnX Tryd.prog mode11 T_idxC10 fuel 19 8)
noncomputable abbrev qb11 : Code := (bodyOf Tryd.prog 121)
noncomputable def idxC11F_s2 {R : Type} (w4 w5 : Int) (nl : Nat) (l c : List Int) (n2 : Nat) (n : Int) (m : List (Int × List Int)) (n1 x1 x2 x3 : Nat) (r pi pr pc : List Int) (c0 : Int → Option R) (c1 : Int → Int → Option R) (c2 : Option R) : Option R :=
  br (decide (w4 < w5))
    (bnd (below w4 nl) fun j9 =>
    bnd (l[(0 + j9)]?) fun e0 =>
    grd (decide (0 ≤ e0) && decide (e0 < (c.length : Int)) && decide (n2 = c.length)) <|
    br (goneB c e0)
      (c0 w4)
      (c1 w5 (IntKind.i64.wrap (w4 + 1))))
    (c2)
theorem idxC11F_s2_eq (fuel k : Nat) (K : Ex → St → Option Out) (w4 w5 : Int) (nl : Nat) (l c : List Int) (n2 : Nat) (n : Int) (m : List (Int × List Int)) (n1 x1 x2 x3 : Nat) (r pi pr pc : List Int) : lpN (sub qb11 [1, 0, 1, 0, 0]) (qb10 fuel) 16 [0, 1, 4, 7, 8] (k + 1) ⟨[(0, .sl 0 1 0 nl), (1, .fn (.func 112) [] [.ptr 1 1 0 0]), (4, vI 0), (7, vI w5), (8, vI w4)], (qb9 l n m n1 n2 x1 x2 x3 r c pi pr pc), 8, none⟩ K = idxC11F_s2 w4 w5 nl l c n2 n m n1 x1 x2 x3 r pi pr pc (fun a0 => K .ret ⟨[(4, vI a0)], (qb9 l n m n1 n2 x1 x2 x3 r c pi pr pc), 8, none⟩) (fun a1 a2 => lpN (sub qb11 [1, 0, 1, 0, 0]) (qb10 fuel) 16 [0, 1, 4, 7, 8] k ⟨[(0, .sl 0 1 0 nl), (1, .fn (.func 112) [] [.ptr 1 1 0 0]), (4, vI 0), (7, vI a1), (8, vI a2)], (qb9 l n m n1 n2 x1 x2 x3 r c pi pr pc), 8, none⟩ K) (K (.exit 0) ⟨[(4, vI 0)], (qb9 l n m n1 n2 x1 x2 x3 r c pi pr pc), 8, none⟩) := by kernel_rfl
noncomputable def idxC11F_l1 {R : Type} (fuel nl : Nat) (l : List Int) (n : Int) (m : List (Int × List Int)) (n1 n2 x1 x2 x3 : Nat) (r c pi pr pc : List Int) (k0 : Int → Option R) (k1 : Option R) : Nat → Int → Int → Option R
  | 0, _, _ => none
  | k + 1, w5, w4 =>
    (idxC11F_s2 w4 w5 nl l c n2 n m n1 x1 x2 x3 r pi pr pc (fun a0 => k0 a0) (fun a1 a2 => ( idxC11F_l1 fuel nl l n m n1 n2 x1 x2 x3 r c pi pr pc k0 k1 k a1 a2 )) (k1))
theorem idxC11F_l1_eq (fuel nl : Nat) (l : List Int) (n : Int) (m : List (Int × List Int)) (n1 n2 x1 x2 x3 : Nat) (r c pi pr pc : List Int) (K : Ex → St → Option Out) : ∀ (k : Nat) (w5 w4 : Int), lpN (sub qb11 [1, 0, 1, 0, 0]) (qb10 fuel) 16 [0, 1, 4, 7, 8] k ⟨[(0, .sl 0 1 0 nl), (1, .fn (.func 112) [] [.ptr 1 1 0 0]), (4, vI 0), (7, vI w5), (8, vI w4)], (qb9 l n m n1 n2 x1 x2 x3 r c pi pr pc), 8, none⟩ K = idxC11F_l1 fuel nl l n m n1 n2 x1 x2 x3 r c pi pr pc (fun y8 => K .ret ⟨[(4, vI y8)], (qb9 l n m n1 n2 x1 x2 x3 r c pi pr pc), 8, none⟩) (K (.exit 0) ⟨[(4, vI 0)], (qb9 l n m n1 n2 x1 x2 x3 r c pi pr pc), 8, none⟩) k w5 w4
  | 0, _, _ => rfl
  | k + 1, w5, w4 => by
    unfold idxC11F_l1
    exact (idxC11F_s2_eq fuel k K w4 w5 nl l c n2 n m n1 x1 x2 x3 r pi pr pc).trans (congr (congr (congr (Eq.refl (idxC11F_s2 (R := Out) w4 w5 nl l c n2 n m n1 x1 x2 x3 r pi pr pc)) (rfl)) (funext fun a0 => funext fun a1 => idxC11F_l1_eq fuel nl l n m n1 n2 x1 x2 x3 r c pi pr pc K k a0 a1)) (rfl))
noncomputable def idxC11F_s3 {R : Type} (x0 : Int) (l : List Int) (n : Int) (m : List (Int × List Int)) (n1 n2 x1 x2 x3 : Nat) (r c pi pr pc : List Int) (c0 : Int → List Int → Nat → Int → (List (Int × List Int)) → Nat → Nat → Nat → Nat → Nat → Nat → Nat → Nat → Nat → Nat → List Int → List Int → List Int → List Int → List Int → Option R) : Option R :=
  c0 x0 l 0 n m 0 n1 0 n2 0 x1 0 x2 0 x3 r c pi pr pc
theorem idxC11F_s3_eq (fuel : Nat)  (x0 : Int) (l : List Int) (n : Int) (m : List (Int × List Int)) (n1 n2 x1 x2 x3 : Nat) (r c pi pr pc : List Int) : (kont (qb10 fuel) qb11 [1, 0, 1, 0] 16 (endK Tryd.prog 2 8 121)) .ret ⟨[(4, vI x0)], (qb9 l n m n1 n2 x1 x2 x3 r c pi pr pc), 8, none⟩ = idxC11F_s3 x0 l n m n1 n2 x1 x2 x3 r c pi pr pc (fun a0 a1 a2 a3 a4 a5 a6 a7 a8 a9 a27 a28 a29 a30 a31 a32 a33 a34 a35 a36 => some (vI a0, [bL 3 a1, some ⟨98, .agg [.ptr 2 8 a2 0], true⟩, some ⟨100, .agg [vI a3, vR a4, .sl 3 1 a5 a6, .sl 4 1 a7 a8, .sl 5 1 a9 a27, .sl 6 1 a28 a29, .sl 7 1 a30 a31, vN], true⟩, bL 3 a32, bL 3 a33, bL 3 a34, bL 3 a35, bL 3 a36])) := by kernel_rfl
noncomputable def idxC11F_s4 {R : Type} (l : List Int) (n : Int) (m : List (Int × List Int)) (n1 n2 x1 x2 x3 : Nat) (r c pi pr pc : List Int) (c0 : Int → List Int → Nat → Int → (List (Int × List Int)) → Nat → Nat → Nat → Nat → Nat → Nat → Nat → Nat → Nat → Nat → List Int → List Int → List Int → List Int → List Int → Option R) : Option R :=
  c0 (-1) l 0 n m 0 n1 0 n2 0 x1 0 x2 0 x3 r c pi pr pc
theorem idxC11F_s4_eq (fuel : Nat)  (l : List Int) (n : Int) (m : List (Int × List Int)) (n1 n2 x1 x2 x3 : Nat) (r c pi pr pc : List Int) : (kont (qb10 fuel) qb11 [1, 0, 1, 0] 16 (endK Tryd.prog 2 8 121)) (.exit 0) ⟨[(4, vI 0)], (qb9 l n m n1 n2 x1 x2 x3 r c pi pr pc), 8, none⟩ = idxC11F_s4 l n m n1 n2 x1 x2 x3 r c pi pr pc (fun a0 a1 a2 a3 a4 a5 a6 a7 a8 a9 a47 a48 a49 a50 a51 a52 a53 a54 a55 a56 => some (vI a0, [bL 3 a1, some ⟨98, .agg [.ptr 2 8 a2 0], true⟩, some ⟨100, .agg [vI a3, vR a4, .sl 3 1 a5 a6, .sl 4 1 a7 a8, .sl 5 1 a9 a47, .sl 6 1 a48 a49, .sl 7 1 a50 a51, vN], true⟩, bL 3 a52, bL 3 a53, bL 3 a54, bL 3 a55, bL 3 a56])) := by kernel_rfl
noncomputable def idxC11F_s1 {R : Type} (nl : Nat) (l : List Int) (n : Int) (m : List (Int × List Int)) (n1 n2 x1 x2 x3 : Nat) (r c pi pr pc : List Int) (c0 : Int → Int → Option R) : Option R :=
  c0 ((nl : Nat) : Int) 0
theorem idxC11F_s1_eq (fuel : Nat)  (nl : Nat) (l : List Int) (n : Int) (m : List (Int × List Int)) (n1 n2 x1 x2 x3 : Nat) (r c pi pr pc : List Int) : callN Tryd.prog mode11 T_idxC10 fuel 121 [.sl 0 1 0 nl, .fn (.func 112) [] [.ptr 1 1 0 0]] [⟨3, vL l, true⟩, ⟨98, .agg [.ptr 2 8 0 0], true⟩, ⟨100, .agg [vI n, vR m, .sl 3 1 0 n1, .sl 4 1 0 n2, .sl 5 1 0 x1, .sl 6 1 0 x2, .sl 7 1 0 x3, vN], true⟩, ⟨3, vL r, true⟩, ⟨3, vL c, true⟩, ⟨3, vL pi, true⟩, ⟨3, vL pr, true⟩, ⟨3, vL pc, true⟩] = idxC11F_s1 nl l n m n1 n2 x1 x2 x3 r c pi pr pc (fun a0 a1 => lpN (sub qb11 [1, 0, 1, 0, 0]) (qb10 fuel) 16 [0, 1, 4, 7, 8] fuel ⟨[(0, .sl 0 1 0 nl), (1, .fn (.func 112) [] [.ptr 1 1 0 0]), (4, vI 0), (7, vI a0), (8, vI a1)], (qb9 l n m n1 n2 x1 x2 x3 r c pi pr pc), 8, none⟩ (kont (qb10 fuel) qb11 [1, 0, 1, 0] 16 (endK Tryd.prog 2 8 121))) := by kernel_rfl
noncomputable def idxC11F {R : Type} (fuel nl : Nat) (l : List Int) (n : Int) (m : List (Int × List Int)) (n1 n2 x1 x2 x3 : Nat) (r c pi pr pc : List Int) (r0 : Int → List Int → Nat → Int → (List (Int × List Int)) → Nat → Nat → Nat → Nat → Nat → Nat → Nat → Nat → Nat → Nat → List Int → List Int → List Int → List Int → List Int → Option R) : Option R :=
  (idxC11F_s1 nl l n m n1 n2 x1 x2 x3 r c pi pr pc (fun a0 a1 => (idxC11F_l1 fuel nl l n m n1 n2 x1 x2 x3 r c pi pr pc (fun x0 => (idxC11F_s3 x0 l n m n1 n2 x1 x2 x3 r c pi pr pc (fun a2 a3 a4 a5 a6 a7 a8 a9 a25 a26 a27 a28 a29 a30 a31 a32 a33 a34 a35 a36 => r0 a2 a3 a4 a5 a6 a7 a8 a9 a25 a26 a27 a28 a29 a30 a31 a32 a33 a34 a35 a36))) ((idxC11F_s4 l n m n1 n2 x1 x2 x3 r c pi pr pc (fun a37 a38 a39 a40 a41 a42 a43 a44 a45 a46 a47 a48 a49 a50 a51 a52 a53 a54 a55 a56 => r0 a37 a38 a39 a40 a41 a42 a43 a44 a45 a46 a47 a48 a49 a50 a51 a52 a53 a54 a55 a56))) fuel a0 a1)))
theorem idxC11F_eq (fuel nl : Nat) (l : List Int) (n : Int) (m : List (Int × List Int)) (n1 n2 x1 x2 x3 : Nat) (r c pi pr pc : List Int) : callN Tryd.prog mode11 T_idxC10 fuel 121 [.sl 0 1 0 nl, .fn (.func 112) [] [.ptr 1 1 0 0]] [⟨3, .li .i64 l, true⟩, ⟨98, .agg [.ptr 2 8 0 0], true⟩, ⟨100, .agg [.s (.int .i64 n), .lt (.pair (.int .i64) (.sl (.int .u64))) m, .sl 3 1 0 n1, .sl 4 1 0 n2, .sl 5 1 0 x1, .sl 6 1 0 x2, .sl 7 1 0 x3, .s (.slice none 0 0)], true⟩, ⟨3, .li .i64 r, true⟩, ⟨3, .li .i64 c, true⟩, ⟨3, .li .i64 pi, true⟩, ⟨3, .li .i64 pr, true⟩, ⟨3, .li .i64 pc, true⟩] = idxC11F fuel nl l n m n1 n2 x1 x2 x3 r c pi pr pc (fun z0 z1 z2 z3 z4 z5 z6 z7 z8 z9 z10 z11 z12 z13 z14 z15 z16 z17 z18 z19 => some (.s (.int .i64 z0), [some ⟨3, .li .i64 z1, true⟩, some ⟨98, .agg [.ptr 2 8 z2 0], true⟩, some ⟨100, .agg [.s (.int .i64 z3), .lt (.pair (.int .i64) (.sl (.int .u64))) z4, .sl 3 1 z5 z6, .sl 4 1 z7 z8, .sl 5 1 z9 z10, .sl 6 1 z11 z12, .sl 7 1 z13 z14, .s (.slice none 0 0)], true⟩, some ⟨3, .li .i64 z15, true⟩, some ⟨3, .li .i64 z16, true⟩, some ⟨3, .li .i64 z17, true⟩, some ⟨3, .li .i64 z18, true⟩, some ⟨3, .li .i64 z19, true⟩])) := by
  unfold idxC11F
  exact (idxC11F_s1_eq fuel  nl l n m n1 n2 x1 x2 x3 r c pi pr pc).trans (congr (Eq.refl (idxC11F_s1 (R := Out) nl l n m n1 n2 x1 x2 x3 r c pi pr pc)) (funext fun a0 => funext fun a1 => (idxC11F_l1_eq fuel nl l n m n1 n2 x1 x2 x3 r c pi pr pc (kont (qb10 fuel) qb11 [1, 0, 1, 0] 16 (endK Tryd.prog 2 8 121)) fuel a0 a1).trans (congrFun (congrFun (congrFun (congr (congr (Eq.refl (idxC11F_l1 (R := Out) fuel nl l n m n1 n2 x1 x2 x3 r c pi pr pc)) (funext fun x0 => (idxC11F_s3_eq fuel  x0 l n m n1 n2 x1 x2 x3 r c pi pr pc))) ((idxC11F_s4_eq fuel  l n m n1 n2 x1 x2 x3 r c pi pr pc))) fuel) a0) a1)))
theorem idxC11_loop {R : Type} (fuel : Nat) (nl : Nat) (l : List Int) (n : Int) (m : List (Int × List Int)) (n1 : Nat) (n2 : Nat) (x1 : Nat) (x2 : Nat) (x3 : Nat) (r : List Int) (c : List Int) (pi : List Int) (pr : List Int) (pc : List Int) (hok : delOk c l = true) (hn : nl = l.length) (hc2 : n2 = c.length) (k0 : Int → Option R) (k1 : Option R) : ∀ (k j : Nat), j ≤ l.length → l.length < j + k → idxC11F_l1 fuel nl l n m n1 n2 x1 x2 x3 r c pi pr pc k0 k1 k (l.length : Int) (j : Int) = if goneFrom c (l.drop j) (j : Int) = -1 then k1 else k0 (goneFrom c (l.drop j) (j : Int))
  | 0, j, h1, h2 => by omega
  | k + 1, j, h1, h2 => by
    obtain ⟨hx, hr⟩ := delOk_iff.1 hok
    unfold idxC11F_l1 idxC11F_s2
    rw [br_if]
    by_cases hc : j < l.length
    · have hw := hr _ (List.getElem_mem hc)
      have eb : below (j : Int) nl = some j := by rw [hn, below_of (by omega) (by omega)]; rfl
      have el : l[0 + j]? = some l[j] := by rw [Nat.zero_add]; exact List.getElem?_eq_getElem hc
      rw [if_pos (by simpa using hc), bnd_of eb, bnd_of el, grd_of (by simp; omega), br_if, List.drop_eq_getElem_cons hc, goneFrom, wrap_i64 (by omega) (by omega), show (j : Int) + 1 = ((j + 1 : Nat) : Int) by omega]
      dsimp only
      rw [idxC11_loop fuel nl l n m n1 n2 x1 x2 x3 r c pi pr pc hok hn hc2 k0 k1 k (j + 1) (by omega) (by omega)]
      by_cases h : goneB c l[j] = true
      · rw [if_pos h, if_pos h, if_neg (by omega)]
      · rw [if_neg h, if_neg h]
    · rw [if_neg (by simpa using hc), List.drop_eq_nil_of_le (by omega)]
      rfl
theorem idxC11_fact (nl : Nat) (l : List Int) (n : Int) (m : List (Int × List Int)) (n1 : Nat) (n2 : Nat) (x1 : Nat) (x2 : Nat) (x3 : Nat) (r : List Int) (c : List Int) (pi : List Int) (pr : List Int) (pc : List Int) (hg : (delOk c l && decide (nl = l.length) && decide (n2 = c.length)) = true) : Fact Tryd.prog gTab 121 [.sl 0 1 0 nl, .fn (.func 112) [] [.ptr 1 1 0 0]] [⟨3, .li .i64 l, true⟩, ⟨98, .agg [.ptr 2 8 0 0], true⟩, ⟨100, .agg [.s (.int .i64 n), .lt (.pair (.int .i64) (.sl (.int .u64))) m, .sl 3 1 0 n1, .sl 4 1 0 n2, .sl 5 1 0 x1, .sl 6 1 0 x2, .sl 7 1 0 x3, .s (.slice none 0 0)], true⟩, ⟨3, .li .i64 r, true⟩, ⟨3, .li .i64 c, true⟩, ⟨3, .li .i64 pi, true⟩, ⟨3, .li .i64 pr, true⟩, ⟨3, .li .i64 pc, true⟩] (.s (.int .i64 (goneAt c l)), [some ⟨3, .li .i64 l, true⟩, some ⟨98, .agg [.ptr 2 8 0 0], true⟩, some ⟨100, .agg [.s (.int .i64 n), .lt (.pair (.int .i64) (.sl (.int .u64))) m, .sl 3 1 0 n1, .sl 4 1 0 n2, .sl 5 1 0 x1, .sl 6 1 0 x2, .sl 7 1 0 x3, .s (.slice none 0 0)], true⟩, some ⟨3, .li .i64 r, true⟩, some ⟨3, .li .i64 c, true⟩, some ⟨3, .li .i64 pi, true⟩, some ⟨3, .li .i64 pr, true⟩, some ⟨3, .li .i64 pc, true⟩]) := by
  simp only [Bool.and_eq_true, decide_eq_true_eq] at hg
  obtain ⟨⟨hok, hn⟩, hc2⟩ := hg
  have hx := (delOk_iff.1 hok).1
  refine callN_fact hN hM T_idxC10_ok (n := 1001) (mode := mode11) ?_
  rw [idxC11F_eq]
  unfold idxC11F idxC11F_s1
  dsimp only
  have hl := fun k0 k1 => idxC11_loop (R := Out) 1001 nl l n m n1 n2 x1 x2 x3 r c pi pr pc hok hn hc2 k0 k1 1001 0 (by omega) (by omega)
  rw [← hn] at hl
  refine (hl _ _).trans ?_
  rw [List.drop_zero, goneAt_eq]
  unfold goneAtI idxC11F_s3 idxC11F_s4
  rw [show ((0 : Nat) : Int) = 0 from rfl]
  by_cases h : goneFrom c l 0 = -1
  · rw [if_pos h, h]
  · rw [if_neg h]
noncomputable def idxC11_ent : List V → List Blk → Option (Bool × Out)
  | [.sl 0 1 0 nl, .fn (.func 112) [] [.ptr 1 1 0 0]], [⟨3, .li .i64 l, true⟩, ⟨98, .agg [.ptr 2 8 0 0], true⟩, ⟨100, .agg [.s (.int .i64 n), .lt (.pair (.int .i64) (.sl (.int .u64))) m, .sl 3 1 0 n1, .sl 4 1 0 n2, .sl 5 1 0 x1, .sl 6 1 0 x2, .sl 7 1 0 x3, .s (.slice none 0 0)], true⟩, ⟨3, .li .i64 r, true⟩, ⟨3, .li .i64 c, true⟩, ⟨3, .li .i64 pi, true⟩, ⟨3, .li .i64 pr, true⟩, ⟨3, .li .i64 pc, true⟩] => some ((delOk c l && decide (nl = l.length) && decide (n2 = c.length)), (.s (.int .i64 (goneAt c l)), [some ⟨3, .li .i64 l, true⟩, some ⟨98, .agg [.ptr 2 8 0 0], true⟩, some ⟨100, .agg [.s (.int .i64 n), .lt (.pair (.int .i64) (.sl (.int .u64))) m, .sl 3 1 0 n1, .sl 4 1 0 n2, .sl 5 1 0 x1, .sl 6 1 0 x2, .sl 7 1 0 x3, .s (.slice none 0 0)], true⟩, some ⟨3, .li .i64 r, true⟩, some ⟨3, .li .i64 c, true⟩, some ⟨3, .li .i64 pi, true⟩, some ⟨3, .li .i64 pr, true⟩, some ⟨3, .li .i64 pc, true⟩]))
  | _, _ => none
theorem idxC11_ok : ∀ args bs out, idxC11_ent args bs = some (true, out) → Fact Tryd.prog gTab 121 args bs out := by
  intro args bs out h
  unfold idxC11_ent at h
  split at h
  · rename_i nl l n m n1 n2 x1 x2 x3 r c pi pr pc
    simp only [Option.some.injEq, Prod.mk.injEq] at h
    obtain ⟨hg, rfl⟩ := h
    exact idxC11_fact nl l n m n1 n2 x1 x2 x3 r c pi pr pc hg
  · cases h
noncomputable def T_idxC11 : Tbl := Tbl.cons 121 idxC11_ent T_idxC10
theorem T_idxC11_ok : CallOk Tryd.prog gTab T_idxC11 := cons_ok T_idxC10_ok idxC11_ok
/-! slices.DeleteFunc[[]int,int] -/
noncomputable abbrev qb12 (n : Int) (m : List (Int × List Int)) (n1 : Nat) (n2 : Nat) : Nat × Option Blk := (2, some ⟨100, .agg [vI n, vR m, .sl 3 1 0 n1, .sl 4 1 0 n2, vN, vN, vN, vN], true⟩)
noncomputable abbrev qb13 : Nat × Option Blk := (1, some ⟨98, .agg [.ptr 2 8 0 0], true⟩)
noncomputable abbrev qb14 (fuel : Nat) : Ctx Out := (fnX Tryd.prog mode11 T_idxC11 fuel 42 5)
noncomputable abbrev qb15 : Code := (sub (bodyOf Tryd.prog 111) [1, 1, 1, 0, 1, 0, 0])
noncomputable abbrev qb16 : Nat × V := (1, .fn (.func 112) [] [.ptr 1 1 0 0])
noncomputable def delC00F_s2 {R : Type} (w0 : Int) (nl : Nat) (w1 c : List Int) (n2 : Nat) (w2 n : Int) (m : List (Int × List Int)) (n1 : Nat) (r : List Int) (c0 c1 : Int → Int → List Int → Option R) (c2 : Int → List Int → Option R) : Option R :=
  br (decide (w0 < ((nl : Nat) : Int)))
    (bnd (below w0 nl) fun j0 =>
    bnd (w1[(0 + j0)]?) fun e0 =>
    grd (decide (0 ≤ e0) && decide (e0 < (c.length : Int)) && decide (n2 = c.length)) <|
    br (!(goneB c e0))
      (bnd (below w2 nl) fun j1 =>
      bnd (w1[(0 + j1)]?) fun e1 =>
      c0 (IntKind.i64.wrap (w2 + 1)) (IntKind.i64.wrap (w0 + 1)) (w1.set (0 + j1) e0))
      (c1 w2 (IntKind.i64.wrap (w0 + 1)) w1))
    (c2 w2 w1)
theorem delC00F_s2_eq (fuel k : Nat) (K : Ex → St → Option Out) (w0 : Int) (nl : Nat) (w1 c : List Int) (n2 : Nat) (w2 n : Int) (m : List (Int × List Int)) (n1 : Nat) (r : List Int) : lpN qb15 (qb14 fuel) 4329327034417 [0, 1, 4, 5, 6] (k + 1) ⟨[(0, .sl 0 1 0 nl), qb16, (4, vN), (5, vI w2), (6, vI w0)], [(0, bL 3 w1), qb13, (qb12 n m n1 n2), (3, bL 3 r), (4, bL 3 c)], 5, none⟩ K = delC00F_s2 w0 nl w1 c n2 w2 n m n1 r (fun a0 a1 a2 => lpN qb15 (qb14 fuel) 4329327034417 [0, 1, 4, 5, 6] k ⟨[(0, .sl 0 1 0 nl), qb16, (4, vN), (5, vI a0), (6, vI a1)], [(0, bL 3 a2), qb13, (qb12 n m n1 n2), (3, bL 3 r), (4, bL 3 c)], 5, none⟩ K) (fun a3 a4 a5 => lpN qb15 (qb14 fuel) 4329327034417 [0, 1, 4, 5, 6] k ⟨[(0, .sl 0 1 0 nl), qb16, (4, vN), (5, vI a3), (6, vI a4)], [(0, bL 3 a5), qb13, (qb12 n m n1 n2), (3, bL 3 r), (4, bL 3 c)], 5, none⟩ K) (fun a6 a7 => K (.exit 0) ⟨[(0, .sl 0 1 0 nl), (4, vN), (5, vI a6)], [(0, bL 3 a7), qb13, (qb12 n m n1 n2), (3, bL 3 r), (4, bL 3 c)], 5, none⟩) := by kernel_rfl
noncomputable def delC00F_l1 {R : Type} (fuel nl : Nat) (n : Int) (m : List (Int × List Int)) (n1 n2 : Nat) (r c : List Int) (k0 : Int → List Int → Option R) : Nat → Int → Int → List Int → Option R
  | 0, _, _, _ => none
  | k + 1, w0, w1, w2 =>
    (delC00F_s2 w1 nl w2 c n2 w0 n m n1 r (fun a0 a1 a2 => ( delC00F_l1 fuel nl n m n1 n2 r c k0 k a0 a1 a2 )) (fun a3 a4 a5 => ( delC00F_l1 fuel nl n m n1 n2 r c k0 k a3 a4 a5 )) (fun a6 a7 => k0 a6 a7))
theorem delC00F_l1_eq (fuel nl : Nat) (n : Int) (m : List (Int × List Int)) (n1 n2 : Nat) (r c : List Int) (K : Ex → St → Option Out) : ∀ (k : Nat) (w0 w1 : Int) (w2 : List Int), lpN qb15 (qb14 fuel) 4329327034417 [0, 1, 4, 5, 6] k ⟨[(0, .sl 0 1 0 nl), qb16, (4, vN), (5, vI w0), (6, vI w1)], [(0, bL 3 w2), qb13, (qb12 n m n1 n2), (3, bL 3 r), (4, bL 3 c)], 5, none⟩ K = delC00F_l1 fuel nl n m n1 n2 r c (fun y0 y1 => K (.exit 0) ⟨[(0, .sl 0 1 0 nl), (4, vN), (5, vI y0)], [(0, bL 3 y1), qb13, (qb12 n m n1 n2), (3, bL 3 r), (4, bL 3 c)], 5, none⟩) k w0 w1 w2
  | 0, _, _, _ => rfl
  | k + 1, w0, w1, w2 => by
    unfold delC00F_l1
    exact (delC00F_s2_eq fuel k K w1 nl w2 c n2 w0 n m n1 r).trans (congr (congr (congr (Eq.refl (delC00F_s2 (R := Out) w1 nl w2 c n2 w0 n m n1 r)) (funext fun a0 => funext fun a1 => funext fun a2 => delC00F_l1_eq fuel nl n m n1 n2 r c K k a0 a1 a2)) (funext fun a3 => funext fun a4 => funext fun a5 => delC00F_l1_eq fuel nl n m n1 n2 r c K k a3 a4 a5)) (rfl))
noncomputable def delC00F_s3 {R : Type} (x0 : Int) (nl : Nat) (x1 : List Int) (n : Int) (m : List (Int × List Int)) (n1 n2 : Nat) (r c : List Int) (c0 : Nat → Nat → List Int → Nat → Int → (List (Int × List Int)) → Nat → Nat → Nat → Nat → List Int → List Int → Option R) : Option R :=
  bnd (upTo x0 nl) fun j0 =>
  bnd (upTo x0 nl) fun j1 =>
  c0 0 (j1 - 0) (x1.take (0 + j0) ++ (List.replicate (nl - j0) (0 : Int)) ++ x1.drop ((0 + j0) + (List.replicate (nl - j0) (0 : Int)).length)) 0 n m 0 n1 0 n2 r c
theorem delC00F_s3_eq (fuel : Nat)  (x0 : Int) (nl : Nat) (x1 : List Int) (n : Int) (m : List (Int × List Int)) (n1 n2 : Nat) (r c : List Int) : (kont (qb14 fuel) (bodyOf Tryd.prog 111) [1, 1, 1, 0, 1, 0] 16 (endK Tryd.prog 2 5 111)) (.exit 0) ⟨[(0, .sl 0 1 0 nl), (4, vN), (5, vI x0)], [(0, bL 3 x1), qb13, (qb12 n m n1 n2), (3, bL 3 r), (4, bL 3 c)], 5, none⟩ = delC00F_s3 x0 nl x1 n m n1 n2 r c (fun a0 a1 a2 a3 a4 a5 a6 a7 a8 a9 a57 a58 => some (.sl 0 1 a0 a1, [bL 3 a2, some ⟨98, .agg [.ptr 2 8 a3 0], true⟩, some ⟨100, .agg [vI a4, vR a5, .sl 3 1 a6 a7, .sl 4 1 a8 a9, vN, vN, vN, vN], true⟩, bL 3 a57, bL 3 a58])) := by kernel_rfl
noncomputable def delC00F_s1 {R : Type} (c l : List Int) (nl n2 : Nat) (n : Int) (m : List (Int × List Int)) (n1 : Nat) (r : List Int) (c0 : Nat → Nat → List Int → Nat → Int → (List (Int × List Int)) → Nat → Nat → Nat → Nat → List Int → List Int → Option R) (c1 : Int → Int → List Int → Option R) : Option R :=
  grd (delOk c l && decide (nl = l.length) && decide (n2 = c.length)) <|
  br (((goneAt c l) : Int) == (-1))
    (c0 0 nl l 0 n m 0 n1 0 n2 r c)
    (c1 (goneAt c l) (IntKind.i64.wrap ((goneAt c l) + 1)) l)
theorem delC00F_s1_eq (fuel : Nat)  (c l : List Int) (nl n2 : Nat) (n : Int) (m : List (Int × List Int)) (n1 : Nat) (r : List Int) : callN Tryd.prog mode11 T_idxC11 fuel 111 [.sl 0 1 0 nl, .fn (.func 112) [] [.ptr 1 1 0 0]] [⟨3, vL l, true⟩, ⟨98, .agg [.ptr 2 8 0 0], true⟩, ⟨100, .agg [vI n, vR m, .sl 3 1 0 n1, .sl 4 1 0 n2, vN, vN, vN, vN], true⟩, ⟨3, vL r, true⟩, ⟨3, vL c, true⟩] = delC00F_s1 c l nl n2 n m n1 r (fun a1 a2 a3 a4 a5 a6 a7 a8 a9 a0 a11 a12 => some (.sl 0 1 a1 a2, [bL 3 a3, some ⟨98, .agg [.ptr 2 8 a4 0], true⟩, some ⟨100, .agg [vI a5, vR a6, .sl 3 1 a7 a8, .sl 4 1 a9 a0, vN, vN, vN, vN], true⟩, bL 3 a11, bL 3 a12])) (fun a40 a41 a42 => lpN qb15 (qb14 fuel) 4329327034417 [0, 1, 4, 5, 6] fuel ⟨[(0, .sl 0 1 0 nl), qb16, (4, vN), (5, vI a40), (6, vI a41)], [(0, bL 3 a42), qb13, (qb12 n m n1 n2), (3, bL 3 r), (4, bL 3 c)], 5, none⟩ (kont (qb14 fuel) (bodyOf Tryd.prog 111) [1, 1, 1, 0, 1, 0] 16 (endK Tryd.prog 2 5 111))) := by kernel_rfl
noncomputable def delC00F {R : Type} (fuel nl : Nat) (l : List Int) (n : Int) (m : List (Int × List Int)) (n1 n2 : Nat) (r c : List Int) (r0 : Nat → Nat → List Int → Nat → Int → (List (Int × List Int)) → Nat → Nat → Nat → Nat → List Int → List Int → Option R) : Option R :=
  (delC00F_s1 c l nl n2 n m n1 r (fun a1 a2 a3 a4 a5 a6 a7 a8 a9 a0 a11 a12 => r0 a1 a2 a3 a4 a5 a6 a7 a8 a9 a0 a11 a12) (fun a40 a41 a42 => (delC00F_l1 fuel nl n m n1 n2 r c (fun x0 x1 => (delC00F_s3 x0 nl x1 n m n1 n2 r c (fun a47 a48 a49 a50 a51 a52 a53 a54 a55 a56 a57 a58 => r0 a47 a48 a49 a50 a51 a52 a53 a54 a55 a56 a57 a58))) fuel a40 a41 a42)))
theorem delC00F_eq (fuel nl : Nat) (l : List Int) (n : Int) (m : List (Int × List Int)) (n1 n2 : Nat) (r c : List Int) : callN Tryd.prog mode11 T_idxC11 fuel 111 [.sl 0 1 0 nl, .fn (.func 112) [] [.ptr 1 1 0 0]] [⟨3, .li .i64 l, true⟩, ⟨98, .agg [.ptr 2 8 0 0], true⟩, ⟨100, .agg [.s (.int .i64 n), .lt (.pair (.int .i64) (.sl (.int .u64))) m, .sl 3 1 0 n1, .sl 4 1 0 n2, .s (.slice none 0 0), .s (.slice none 0 0), .s (.slice none 0 0), .s (.slice none 0 0)], true⟩, ⟨3, .li .i64 r, true⟩, ⟨3, .li .i64 c, true⟩] = delC00F fuel nl l n m n1 n2 r c (fun z0 z1 z2 z3 z4 z5 z6 z7 z8 z9 z10 z11 => some (.sl 0 1 z0 z1, [some ⟨3, .li .i64 z2, true⟩, some ⟨98, .agg [.ptr 2 8 z3 0], true⟩, some ⟨100, .agg [.s (.int .i64 z4), .lt (.pair (.int .i64) (.sl (.int .u64))) z5, .sl 3 1 z6 z7, .sl 4 1 z8 z9, .s (.slice none 0 0), .s (.slice none 0 0), .s (.slice none 0 0), .s (.slice none 0 0)], true⟩, some ⟨3, .li .i64 z10, true⟩, some ⟨3, .li .i64 z11, true⟩])) := by
  unfold delC00F
  exact (delC00F_s1_eq fuel  c l nl n2 n m n1 r).trans (congr (congr (Eq.refl (delC00F_s1 (R := Out) c l nl n2 n m n1 r)) (rfl)) (funext fun a0 => funext fun a1 => funext fun a2 => (delC00F_l1_eq fuel nl n m n1 n2 r c (kont (qb14 fuel) (bodyOf Tryd.prog 111) [1, 1, 1, 0, 1, 0] 16 (endK Tryd.prog 2 5 111)) fuel a0 a1 a2).trans (congrFun (congrFun (congrFun (congrFun (congr (Eq.refl (delC00F_l1 (R := Out) fuel nl n m n1 n2 r c)) (funext fun x0 => funext fun x1 => (delC00F_s3_eq fuel  x0 nl x1 n m n1 n2 r c))) fuel) a0) a1) a2)))
theorem delC00_loop {R : Type} (fuel : Nat) (nl : Nat) (n : Int) (m : List (Int × List Int)) (n1 : Nat) (n2 : Nat) (r : List Int) (c : List Int) (l : List Int) (hok : delOk c l = true) (hn : nl = l.length) (hc2 : n2 = c.length) (k0 : Int → List Int → Option R) (r0 : Option R) (hk : ∀ Y : List Int, Y.length = l.length → Y.take (keepC c l).length = keepC c l → k0 ((keepC c l).length : Int) Y = r0) : ∀ (k j : Nat) (X : List Int), j ≤ l.length → l.length < j + k → X.length = l.length → X.take (keepC c (l.take j)).length = keepC c (l.take j) → X.drop j = l.drop j → delC00F_l1 fuel nl n m n1 n2 r c k0 k ((keepC c (l.take j)).length : Int) (j : Int) X = r0
  | 0, j, X, h1, h2, _, _, _ => by omega
  | k + 1, j, X, h1, h2, hX, hT, hD => by
    obtain ⟨hx, hr⟩ := delOk_iff.1 hok
    unfold delC00F_l1 delC00F_s2
    rw [br_if]
    by_cases hc : j < l.length
    · have hw := hr _ (List.getElem_mem hc)
      have hkl := keep_len c (l.take j)
      rw [List.length_take] at hkl
      have hjX : j < X.length := by omega
      have eX : X[j] = l[j] := by
        have := congrArg List.head? hD
        rw [List.head?_drop, List.head?_drop, List.getElem?_eq_getElem hjX, List.getElem?_eq_getElem hc] at this
        exact Option.some.inj this
      have hD1 : X.drop (j + 1) = l.drop (j + 1) := by
        have := congrArg (List.drop 1) hD
        rwa [List.drop_drop, List.drop_drop] at this
      have eb : below (j : Int) nl = some j := by rw [hn, below_of (by omega) (by omega)]; rfl
      have el : X[0 + j]? = some X[j] := by rw [Nat.zero_add]; exact List.getElem?_eq_getElem hjX
      have hs := keep_snoc c (l.take j) l[j]
      rw [← List.take_succ_eq_append_getElem hc] at hs
      rw [if_pos (by simp; omega), bnd_of eb, bnd_of el, eX, grd_of (by simp; omega), br_if]
      by_cases h : goneB c l[j] = true
      · rw [if_pos h, List.append_nil] at hs
        rw [if_neg (by simp [h]), wrap_i64 (by omega) (by omega), show (j : Int) + 1 = ((j + 1 : Nat) : Int) by omega, ← hs]
        exact delC00_loop fuel nl n m n1 n2 r c l hok hn hc2 k0 r0 hk k (j + 1) X (by omega) (by omega) hX (by rw [hs]; exact hT) hD1
      · rw [if_neg h] at hs
        have hp : (keepC c (l.take j)).length < X.length := by omega
        have eb2 : below ((keepC c (l.take j)).length : Int) nl = some (keepC c (l.take j)).length := by rw [hn, below_of (by omega) (by omega)]; rfl
        have el2 : X[0 + (keepC c (l.take j)).length]? = some (X[(keepC c (l.take j)).length]'hp) := by rw [Nat.zero_add]; exact List.getElem?_eq_getElem hp
        have hlen : (keepC c (l.take (j + 1))).length = (keepC c (l.take j)).length + 1 := by rw [hs]; simp
        rw [if_pos (by simp [h]), bnd_of eb2, bnd_of el2, wrap_i64 (by omega) (by omega), wrap_i64 (by omega) (by omega), show (j : Int) + 1 = ((j + 1 : Nat) : Int) by omega, show ((keepC c (l.take j)).length : Int) + 1 = ((keepC c (l.take (j + 1))).length : Int) by omega, Nat.zero_add]
        refine delC00_loop fuel nl n m n1 n2 r c l hok hn hc2 k0 r0 hk k (j + 1) _ (by omega) (by omega) (by rw [List.length_set]; exact hX) ?_ ?_
        · rw [hlen, List.take_succ_eq_append_getElem (by rw [List.length_set]; exact hp), List.getElem_set_self, List.take_set_of_le (Nat.le_refl _), hT, hs]
        · rw [List.drop_set_of_lt (by omega)]; exact hD1
    · have e : j = l.length := by omega
      subst e
      rw [if_neg (by simp; omega)]
      rw [List.take_length] at hT ⊢
      exact hk X hX hT
theorem delC00_fact (nl : Nat) (l : List Int) (n : Int) (m : List (Int × List Int)) (n1 : Nat) (n2 : Nat) (r : List Int) (c : List Int) (hg : (delOk c l && decide (nl = l.length) && decide (n2 = c.length)) = true) : Fact Tryd.prog gTab 111 [.sl 0 1 0 nl, .fn (.func 112) [] [.ptr 1 1 0 0]] [⟨3, .li .i64 l, true⟩, ⟨98, .agg [.ptr 2 8 0 0], true⟩, ⟨100, .agg [.s (.int .i64 n), .lt (.pair (.int .i64) (.sl (.int .u64))) m, .sl 3 1 0 n1, .sl 4 1 0 n2, .s (.slice none 0 0), .s (.slice none 0 0), .s (.slice none 0 0), .s (.slice none 0 0)], true⟩, ⟨3, .li .i64 r, true⟩, ⟨3, .li .i64 c, true⟩] (.sl 0 1 0 ((keepC c l).length), [some ⟨3, .li .i64 (keepC c l ++ List.replicate (l.length - (keepC c l).length) 0), true⟩, some ⟨98, .agg [.ptr 2 8 0 0], true⟩, some ⟨100, .agg [.s (.int .i64 n), .lt (.pair (.int .i64) (.sl (.int .u64))) m, .sl 3 1 0 n1, .sl 4 1 0 n2, .s (.slice none 0 0), .s (.slice none 0 0), .s (.slice none 0 0), .s (.slice none 0 0)], true⟩, some ⟨3, .li .i64 r, true⟩, some ⟨3, .li .i64 c, true⟩]) := by
  have hg' := hg
  simp only [Bool.and_eq_true, decide_eq_true_eq] at hg'
  obtain ⟨⟨hok, hn⟩, hc2⟩ := hg'
  have hx := (delOk_iff.1 hok).1
  have hkl := keep_len c l
  refine callN_fact hN hM T_idxC11_ok (n := 1001) (mode := mode11) ?_
  rw [delC00F_eq]
  unfold delC00F delC00F_s1
  rw [grd_of hg, br_if]
  rcases gone_cases c l with ⟨h1, h2⟩ | ⟨q, h1, h2, h3⟩
  · rw [if_pos (by rw [h1]; decide), h2, Nat.sub_self, List.replicate_zero, List.append_nil, hn]
  · rw [if_neg (by rw [h2]; simp), h2, wrap_i64 (by omega) (by omega)]
    dsimp only
    have hl : (keepC c (l.take (q + 1))).length = q := by rw [h3, List.length_take]; omega
    have hloop := fun k0 r0 hk => delC00_loop (R := Out) 1001 nl n m n1 n2 r c l hok hn hc2 k0 r0 hk 1001 (q + 1) l (by omega) (by omega) rfl (by rw [hl, h3]) rfl
    rw [hl, show ((q + 1 : Nat) : Int) = (q : Int) + 1 by omega] at hloop
    refine hloop _ _ fun Y hY hT => ?_
    unfold delC00F_s3
    have eu : upTo ((keepC c l).length : Int) nl = some (keepC c l).length := by rw [hn, upTo_of (by omega) (by omega)]; rfl
    rw [bnd_of eu, bnd_of eu, Nat.zero_add, hT, Nat.sub_zero, hn, List.length_replicate, List.drop_eq_nil_of_le (by omega), List.append_nil]
noncomputable def delC00_ent : List V → List Blk → Option (Bool × Out)
  | [.sl 0 1 0 nl, .fn (.func 112) [] [.ptr 1 1 0 0]], [⟨3, .li .i64 l, true⟩, ⟨98, .agg [.ptr 2 8 0 0], true⟩, ⟨100, .agg [.s (.int .i64 n), .lt (.pair (.int .i64) (.sl (.int .u64))) m, .sl 3 1 0 n1, .sl 4 1 0 n2, .s (.slice none 0 0), .s (.slice none 0 0), .s (.slice none 0 0), .s (.slice none 0 0)], true⟩, ⟨3, .li .i64 r, true⟩, ⟨3, .li .i64 c, true⟩] => some ((delOk c l && decide (nl = l.length) && decide (n2 = c.length)), (.sl 0 1 0 ((keepC c l).length), [some ⟨3, .li .i64 (keepC c l ++ List.replicate (l.length - (keepC c l).length) 0), true⟩, some ⟨98, .agg [.ptr 2 8 0 0], true⟩, some ⟨100, .agg [.s (.int .i64 n), .lt (.pair (.int .i64) (.sl (.int .u64))) m, .sl 3 1 0 n1, .sl 4 1 0 n2, .s (.slice none 0 0), .s (.slice none 0 0), .s (.slice none 0 0), .s (.slice none 0 0)], true⟩, some ⟨3, .li .i64 r, true⟩, some ⟨3, .li .i64 c, true⟩]))
  | _, _ => none
theorem delC00_ok : ∀ args bs out, delC00_ent args bs = some (true, out) → Fact Tryd.prog gTab 111 args bs out := by
  intro args bs out h
  unfold delC00_ent at h
  split at h
  · rename_i nl l n m n1 n2 r c
    simp only [Option.some.injEq, Prod.mk.injEq] at h
    obtain ⟨hg, rfl⟩ := h
    exact delC00_fact nl l n m n1 n2 r c hg
  · cases h
noncomputable def T_delC00 : Tbl := Tbl.cons 111 delC00_ent T_idxC11
theorem T_delC00_ok : CallOk Tryd.prog gTab T_delC00 := cons_ok T_idxC11_ok delC00_ok
/-! slices.DeleteFunc[[]int,int] -/
noncomputable abbrev qb17 (n : Int) (m : List (Int × List Int)) (n1 : Nat) (n2 : Nat) (x2 : Nat) (x3 : Nat) : Nat × Option Blk := (2, some ⟨100, .agg [vI n, vR m, .sl 3 1 0 n1, .sl 4 1 0 n2, vN, .sl 5 1 0 x2, .sl 6 1 0 x3, vN], true⟩)
noncomputable abbrev qb18 : Nat × Option Blk := (1, some ⟨98, .agg [.ptr 2 8 0 0], true⟩)
noncomputable abbrev qb19 (fuel : Nat) : Ctx Out := (fnX Tryd.prog mode11 T_delC00 fuel 42 7)
noncomputable abbrev qb20 : Code := (sub (bodyOf Tryd.prog 111) [1, 1, 1, 0, 1, 0, 0])
noncomputable abbrev qb21 : Nat × V := (1, .fn (.func 112) [] [.ptr 1 1 0 0])
noncomputable def delC01F_s2 {R : Type} (w0 : Int) (nl : Nat) (w1 c : List Int) (n2 : Nat) (w2 n : Int) (m : List (Int × List Int)) (n1 x2 x3 : Nat) (r pr pc : List Int) (c0 c1 : Int → Int → List Int → Option R) (c2 : Int → List Int → Option R) : Option R :=
  br (decide (w0 < ((nl : Nat) : Int)))
    (bnd (below w0 nl) fun j0 =>
    bnd (w1[(0 + j0)]?) fun e0 =>
    grd (decide (0 ≤ e0) && decide (e0 < (c.length : Int)) && decide (n2 = c.length)) <|
    br (!(goneB c e0))
      (bnd (below w2 nl) fun j1 =>
      bnd (w1[(0 + j1)]?) fun e1 =>
      c0 (IntKind.i64.wrap (w2 + 1)) (IntKind.i64.wrap (w0 + 1)) (w1.set (0 + j1) e0))
      (c1 w2 (IntKind.i64.wrap (w0 + 1)) w1))
    (c2 w2 w1)
theorem delC01F_s2_eq (fuel k : Nat) (K : Ex → St → Option Out) (w0 : Int) (nl : Nat) (w1 c : List Int) (n2 : Nat) (w2 n : Int) (m : List (Int × List Int)) (n1 x2 x3 : Nat) (r pr pc : List Int) : lpN qb20 (qb19 fuel) 4329327034417 [0, 1, 4, 5, 6] (k + 1) ⟨[(0, .sl 0 1 0 nl), qb21, (4, vN), (5, vI w2), (6, vI w0)], [(0, bL 3 w1), qb18, (qb17 n m n1 n2 x2 x3), (3, bL 3 r), (4, bL 3 c), (5, bL 3 pr), (6, bL 3 pc)], 7, none⟩ K = delC01F_s2 w0 nl w1 c n2 w2 n m n1 x2 x3 r pr pc (fun a0 a1 a2 => lpN qb20 (qb19 fuel) 4329327034417 [0, 1, 4, 5, 6] k ⟨[(0, .sl 0 1 0 nl), qb21, (4, vN), (5, vI a0), (6, vI a1)], [(0, bL 3 a2), qb18, (qb17 n m n1 n2 x2 x3), (3, bL 3 r), (4, bL 3 c), (5, bL 3 pr), (6, bL 3 pc)], 7, none⟩ K) (fun a3 a4 a5 => lpN qb20 (qb19 fuel) 4329327034417 [0, 1, 4, 5, 6] k ⟨[(0, .sl 0 1 0 nl), qb21, (4, vN), (5, vI a3), (6, vI a4)], [(0, bL 3 a5), qb18, (qb17 n m n1 n2 x2 x3), (3, bL 3 r), (4, bL 3 c), (5, bL 3 pr), (6, bL 3 pc)], 7, none⟩ K) (fun a6 a7 => K (.exit 0) ⟨[(0, .sl 0 1 0 nl), (4, vN), (5, vI a6)], [(0, bL 3 a7), qb18, (qb17 n m n1 n2 x2 x3), (3, bL 3 r), (4, bL 3 c), (5, bL 3 pr), (6, bL 3 pc)], 7, none⟩) := by kernel_rfl
noncomputable def delC01F_l1 {R : Type} (fuel nl : Nat) (n : Int) (m : List (Int × List Int)) (n1 n2 x2 x3 : Nat) (r c pr pc : List Int) (k0 : Int → List Int → Option R) : Nat → Int → Int → List Int → Option R
  | 0, _, _, _ => none
  | k + 1, w0, w1, w2 =>
    (delC01F_s2 w1 nl w2 c n2 w0 n m n1 x2 x3 r pr pc (fun a0 a1 a2 => ( delC01F_l1 fuel nl n m n1 n2 x2 x3 r c pr pc k0 k a0 a1 a2 )) (fun a3 a4 a5 => ( delC01F_l1 fuel nl n m n1 n2 x2 x3 r c pr pc k0 k a3 a4 a5 )) (fun a6 a7 => k0 a6 a7))
theorem delC01F_l1_eq (fuel nl : Nat) (n : Int) (m : List (Int × List Int)) (n1 n2 x2 x3 : Nat) (r c pr pc : List Int) (K : Ex → St → Option Out) : ∀ (k : Nat) (w0 w1 : Int) (w2 : List Int), lpN qb20 (qb19 fuel) 4329327034417 [0, 1, 4, 5, 6] k ⟨[(0, .sl 0 1 0 nl), qb21, (4, vN), (5, vI w0), (6, vI w1)], [(0, bL 3 w2), qb18, (qb17 n m n1 n2 x2 x3), (3, bL 3 r), (4, bL 3 c), (5, bL 3 pr), (6, bL 3 pc)], 7, none⟩ K = delC01F_l1 fuel nl n m n1 n2 x2 x3 r c pr pc (fun y0 y1 => K (.exit 0) ⟨[(0, .sl 0 1 0 nl), (4, vN), (5, vI y0)], [(0, bL 3 y1), qb18, (qb17 n m n1 n2 x2 x3), (3, bL 3 r), (4, bL 3 c), (5, bL 3 pr), (6, bL 3 pc)], 7, none⟩) k w0 w1 w2
  | 0, _, _, _ => rfl
  | k + 1, w0, w1, w2 => by
    unfold delC01F_l1
    exact (delC01F_s2_eq fuel k K w1 nl w2 c n2 w0 n m n1 x2 x3 r pr pc).trans (congr (congr (congr (Eq.refl (delC01F_s2 (R := Out) w1 nl w2 c n2 w0 n m n1 x2 x3 r pr pc)) (funext fun a0 => funext fun a1 => funext fun a2 => delC01F_l1_eq fuel nl n m n1 n2 x2 x3 r c pr pc K k a0 a1 a2)) (funext fun a3 => funext fun a4 => funext fun a5 => delC01F_l1_eq fuel nl n m n1 n2 x2 x3 r c pr pc K k a3 a4 a5)) (rfl))
noncomputable def delC01F_s3 {R : Type} (x0 : Int) (nl : Nat) (x1 : List Int) (n : Int) (m : List (Int × List Int)) (n1 n2 x2 x3 : Nat) (r c pr pc : List Int) (c0 : Nat → Nat → List Int → Nat → Int → (List (Int × List Int)) → Nat → Nat → Nat → Nat → Nat → Nat → Nat → Nat → List Int → List Int → List Int → List Int → Option R) : Option R :=
  bnd (upTo x0 nl) fun j0 =>
  bnd (upTo x0 nl) fun j1 =>
  c0 0 (j1 - 0) (x1.take (0 + j0) ++ (List.replicate (nl - j0) (0 : Int)) ++ x1.drop ((0 + j0) + (List.replicate (nl - j0) (0 : Int)).length)) 0 n m 0 n1 0 n2 0 x2 0 x3 r c pr pc
theorem delC01F_s3_eq (fuel : Nat)  (x0 : Int) (nl : Nat) (x1 : List Int) (n : Int) (m : List (Int × List Int)) (n1 n2 x2 x3 : Nat) (r c pr pc : List Int) : (kont (qb19 fuel) (bodyOf Tryd.prog 111) [1, 1, 1, 0, 1, 0] 16 (endK Tryd.prog 2 7 111)) (.exit 0) ⟨[(0, .sl 0 1 0 nl), (4, vN), (5, vI x0)], [(0, bL 3 x1), qb18, (qb17 n m n1 n2 x2 x3), (3, bL 3 r), (4, bL 3 c), (5, bL 3 pr), (6, bL 3 pc)], 7, none⟩ = delC01F_s3 x0 nl x1 n m n1 n2 x2 x3 r c pr pc (fun a0 a1 a2 a3 a4 a5 a6 a7 a8 a9 a63 a64 a65 a66 a67 a68 a69 a70 => some (.sl 0 1 a0 a1, [bL 3 a2, some ⟨98, .agg [.ptr 2 8 a3 0], true⟩, some ⟨100, .agg [vI a4, vR a5, .sl 3 1 a6 a7, .sl 4 1 a8 a9, vN, .sl 5 1 a63 a64, .sl 6 1 a65 a66, vN], true⟩, bL 3 a67, bL 3 a68, bL 3 a69, bL 3 a70])) := by kernel_rfl
noncomputable def delC01F_s1 {R : Type} (c l : List Int) (nl n2 : Nat) (n : Int) (m : List (Int × List Int)) (n1 x2 x3 : Nat) (r pr pc : List Int) (c0 : Nat → Nat → List Int → Nat → Int → (List (Int × List Int)) → Nat → Nat → Nat → Nat → Nat → Nat → Nat → Nat → List Int → List Int → List Int → List Int → Option R) (c1 : Int → Int → List Int → Option R) : Option R :=
  grd (delOk c l && decide (nl = l.length) && decide (n2 = c.length)) <|
  br (((goneAt c l) : Int) == (-1))
    (c0 0 nl l 0 n m 0 n1 0 n2 0 x2 0 x3 r c pr pc)
    (c1 (goneAt c l) (IntKind.i64.wrap ((goneAt c l) + 1)) l)
theorem delC01F_s1_eq (fuel : Nat)  (c l : List Int) (nl n2 : Nat) (n : Int) (m : List (Int × List Int)) (n1 x2 x3 : Nat) (r pr pc : List Int) : callN Tryd.prog mode11 T_delC00 fuel 111 [.sl 0 1 0 nl, .fn (.func 112) [] [.ptr 1 1 0 0]] [⟨3, vL l, true⟩, ⟨98, .agg [.ptr 2 8 0 0], true⟩, ⟨100, .agg [vI n, vR m, .sl 3 1 0 n1, .sl 4 1 0 n2, vN, .sl 5 1 0 x2, .sl 6 1 0 x3, vN], true⟩, ⟨3, vL r, true⟩, ⟨3, vL c, true⟩, ⟨3, vL pr, true⟩, ⟨3, vL pc, true⟩] = delC01F_s1 c l nl n2 n m n1 x2 x3 r pr pc (fun a1 a2 a3 a4 a5 a6 a7 a8 a9 a0 a11 a12 a13 a14 a15 a16 a17 a18 => some (.sl 0 1 a1 a2, [bL 3 a3, some ⟨98, .agg [.ptr 2 8 a4 0], true⟩, some ⟨100, .agg [vI a5, vR a6, .sl 3 1 a7 a8, .sl 4 1 a9 a0, vN, .sl 5 1 a11 a12, .sl 6 1 a13 a14, vN], true⟩, bL 3 a15, bL 3 a16, bL 3 a17, bL 3 a18])) (fun a46 a47 a48 => lpN qb20 (qb19 fuel) 4329327034417 [0, 1, 4, 5, 6] fuel ⟨[(0, .sl 0 1 0 nl), qb21, (4, vN), (5, vI a46), (6, vI a47)], [(0, bL 3 a48), qb18, (qb17 n m n1 n2 x2 x3), (3, bL 3 r), (4, bL 3 c), (5, bL 3 pr), (6, bL 3 pc)], 7, none⟩ (kont (qb19 fuel) (bodyOf Tryd.prog 111) [1, 1, 1, 0, 1, 0] 16 (endK Tryd.prog 2 7 111))) := by kernel_rfl
noncomputable def delC01F {R : Type} (fuel nl : Nat) (l : List Int) (n : Int) (m : List (Int × List Int)) (n1 n2 x2 x3 : Nat) (r c pr pc : List Int) (r0 : Nat → Nat → List Int → Nat → Int → (List (Int × List Int)) → Nat → Nat → Nat → Nat → Nat → Nat → Nat → Nat → List Int → List Int → List Int → List Int → Option R) : Option R :=
  (delC01F_s1 c l nl n2 n m n1 x2 x3 r pr pc (fun a1 a2 a3 a4 a5 a6 a7 a8 a9 a0 a11 a12 a13 a14 a15 a16 a17 a18 => r0 a1 a2 a3 a4 a5 a6 a7 a8 a9 a0 a11 a12 a13 a14 a15 a16 a17 a18) (fun a46 a47 a48 => (delC01F_l1 fuel nl n m n1 n2 x2 x3 r c pr pc (fun x0 x1 => (delC01F_s3 x0 nl x1 n m n1 n2 x2 x3 r c pr pc (fun a53 a54 a55 a56 a57 a58 a59 a60 a61 a62 a63 a64 a65 a66 a67 a68 a69 a70 => r0 a53 a54 a55 a56 a57 a58 a59 a60 a61 a62 a63 a64 a65 a66 a67 a68 a69 a70))) fuel a46 a47 a48)))
theorem delC01F_eq (fuel nl : Nat) (l : List Int) (n : Int) (m : List (Int × List Int)) (n1 n2 x2 x3 : Nat) (r c pr pc : List Int) : callN Tryd.prog mode11 T_delC00 fuel 111 [.sl 0 1 0 nl, .fn (.func 112) [] [.ptr 1 1 0 0]] [⟨3, .li .i64 l, true⟩, ⟨98, .agg [.ptr 2 8 0 0], true⟩, ⟨100, .agg [.s (.int .i64 n), .lt (.pair (.int .i64) (.sl (.int .u64))) m, .sl 3 1 0 n1, .sl 4 1 0 n2, .s (.slice none 0 0), .sl 5 1 0 x2, .sl 6 1 0 x3, .s (.slice none 0 0)], true⟩, ⟨3, .li .i64 r, true⟩, ⟨3, .li .i64 c, true⟩, ⟨3, .li .i64 pr, true⟩, ⟨3, .li .i64 pc, true⟩] = delC01F fuel nl l n m n1 n2 x2 x3 r c pr pc (fun z0 z1 z2 z3 z4 z5 z6 z7 z8 z9 z10 z11 z12 z13 z14 z15 z16 z17 => some (.sl 0 1 z0 z1, [some ⟨3, .li .i64 z2, true⟩, some ⟨98, .agg [.ptr 2 8 z3 0], true⟩, some ⟨100, .agg [.s (.int .i64 z4), .lt (.pair (.int .i64) (.sl (.int .u64))) z5, .sl 3 1 z6 z7, .sl 4 1 z8 z9, .s (.slice none 0 0), .sl 5 1 z10 z11, .sl 6 1 z12 z13, .s (.slice none 0 0)], true⟩, some ⟨3, .li .i64 z14, true⟩, some ⟨3, .li .i64 z15, true⟩, some ⟨3, .li .i64 z16, true⟩, some ⟨3, .li .i64 z17, true⟩])) := by
  unfold delC01F
  exact (delC01F_s1_eq fuel  c l nl n2 n m n1 x2 x3 r pr pc).trans (congr (congr (Eq.refl (delC01F_s1 (R := Out) c l nl n2 n m n1 x2 x3 r pr pc)) (rfl)) (funext fun a0 => funext fun a1 => funext fun a2 => (delC01F_l1_eq fuel nl n m n1 n2 x2 x3 r c pr pc (kont (qb19 fuel) (bodyOf Tryd.prog 111) [1, 1, 1, 0, 1, 0] 16 (endK Tryd.prog 2 7 111)) fuel a0 a1 a2).trans (congrFun (congrFun (congrFun (congrFun (congr (Eq.refl (delC01F_l1 (R := Out) fuel nl n m n1 n2 x2 x3 r c pr pc)) (funext fun x0 => funext fun x1 => (delC01F_s3_eq fuel  x0 nl x1 n m n1 n2 x2 x3 r c pr pc))) fuel) a0) a1) a2)))
theorem delC01_loop {R : Type} (fuel : Nat) (nl : Nat) (n : Int) (m : List (Int × List Int)) (n1 : Nat) (n2 : Nat) (x2 : Nat) (x3 : Nat) (r : List Int) (c : List Int) (pr : List Int) (pc : List Int) (l : List Int) (hok : delOk c l = true) (hn : nl = l.length) (hc2 : n2 = c.length) (k0 : Int → List Int → Option R) (r0 : Option R) (hk : ∀ Y : List Int, Y.length = l.length → Y.take (keepC c l).length = keepC c l → k0 ((keepC c l).length : Int) Y = r0) : ∀ (k j : Nat) (X : List Int), j ≤ l.length → l.length < j + k → X.length = l.length → X.take (keepC c (l.take j)).length = keepC c (l.take j) → X.drop j = l.drop j → delC01F_l1 fuel nl n m n1 n2 x2 x3 r c pr pc k0 k ((keepC c (l.take j)).length : Int) (j : Int) X = r0
  | 0, j, X, h1, h2, _, _, _ => by omega
  | k + 1, j, X, h1, h2, hX, hT, hD => by
    obtain ⟨hx, hr⟩ := delOk_iff.1 hok
    unfold delC01F_l1 delC01F_s2
    rw [br_if]
    by_cases hc : j < l.length
    · have hw := hr _ (List.getElem_mem hc)
      have hkl := keep_len c (l.take j)
      rw [List.length_take] at hkl
      have hjX : j < X.length := by omega
      have eX : X[j] = l[j] := by
        have := congrArg List.head? hD
        rw [List.head?_drop, List.head?_drop, List.getElem?_eq_getElem hjX, List.getElem?_eq_getElem hc] at this
        exact Option.some.inj this
      have hD1 : X.drop (j + 1) = l.drop (j + 1) := by
        have := congrArg (List.drop 1) hD
        rwa [List.drop_drop, List.drop_drop] at this
      have eb : below (j : Int) nl = some j := by rw [hn, below_of (by omega) (by omega)]; rfl
      have el : X[0 + j]? = some X[j] := by rw [Nat.zero_add]; exact List.getElem?_eq_getElem hjX
      have hs := keep_snoc c (l.take j) l[j]
      rw [← List.take_succ_eq_append_getElem hc] at hs
      rw [if_pos (by simp; omega), bnd_of eb, bnd_of el, eX, grd_of (by simp; omega), br_if]
      by_cases h : goneB c l[j] = true
      · rw [if_pos h, List.append_nil] at hs
        rw [if_neg (by simp [h]), wrap_i64 (by omega) (by omega), show (j : Int) + 1 = ((j + 1 : Nat) : Int) by omega, ← hs]
        exact delC01_loop fuel nl n m n1 n2 x2 x3 r c pr pc l hok hn hc2 k0 r0 hk k (j + 1) X (by omega) (by omega) hX (by rw [hs]; exact hT) hD1
      · rw [if_neg h] at hs
        have hp : (keepC c (l.take j)).length < X.length := by omega
        have eb2 : below ((keepC c (l.take j)).length : Int) nl = some (keepC c (l.take j)).length := by rw [hn, below_of (by omega) (by omega)]; rfl
        have el2 : X[0 + (keepC c (l.take j)).length]? = some (X[(keepC c (l.take j)).length]'hp) := by rw [Nat.zero_add]; exact List.getElem?_eq_getElem hp
        have hlen : (keepC c (l.take (j + 1))).length = (keepC c (l.take j)).length + 1 := by rw [hs]; simp
        rw [if_pos (by simp [h]), bnd_of eb2, bnd_of el2, wrap_i64 (by omega) (by omega), wrap_i64 (by omega) (by omega), show (j : Int) + 1 = ((j + 1 : Nat) : Int) by omega, show ((keepC c (l.take j)).length : Int) + 1 = ((keepC c (l.take (j + 1))).length : Int) by omega, Nat.zero_add]
        refine delC01_loop fuel nl n m n1 n2 x2 x3 r c pr pc l hok hn hc2 k0 r0 hk k (j + 1) _ (by omega) (by omega) (by rw [List.length_set]; exact hX) ?_ ?_
        · rw [hlen, List.take_succ_eq_append_getElem (by rw [List.length_set]; exact hp), List.getElem_set_self, List.take_set_of_le (Nat.le_refl _), hT, hs]
        · rw [List.drop_set_of_lt (by omega)]; exact hD1
    · have e : j = l.length := by omega
      subst e
      rw [if_neg (by simp; omega)]
      rw [List.take_length] at hT ⊢
      exact hk X hX hT
theorem delC01_fact (nl : Nat) (l : List Int) (n : Int) (m : List (Int × List Int)) (n1 : Nat) (n2 : Nat) (x2 : Nat) (x3 : Nat) (r : List Int) (c : List Int) (pr : List Int) (pc : List Int) (hg : (delOk c l && decide (nl = l.length) && decide (n2 = c.length)) = true) : Fact Tryd.prog gTab 111 [.sl 0 1 0 nl, .fn (.func 112) [] [.ptr 1 1 0 0]] [⟨3, .li .i64 l, true⟩, ⟨98, .agg [.ptr 2 8 0 0], true⟩, ⟨100, .agg [.s (.int .i64 n), .lt (.pair (.int .i64) (.sl (.int .u64))) m, .sl 3 1 0 n1, .sl 4 1 0 n2, .s (.slice none 0 0), .sl 5 1 0 x2, .sl 6 1 0 x3, .s (.slice none 0 0)], true⟩, ⟨3, .li .i64 r, true⟩, ⟨3, .li .i64 c, true⟩, ⟨3, .li .i64 pr, true⟩, ⟨3, .li .i64 pc, true⟩] (.sl 0 1 0 ((keepC c l).length), [some ⟨3, .li .i64 (keepC c l ++ List.replicate (l.length - (keepC c l).length) 0), true⟩, some ⟨98, .agg [.ptr 2 8 0 0], true⟩, some ⟨100, .agg [.s (.int .i64 n), .lt (.pair (.int .i64) (.sl (.int .u64))) m, .sl 3 1 0 n1, .sl 4 1 0 n2, .s (.slice none 0 0), .sl 5 1 0 x2, .sl 6 1 0 x3, .s (.slice none 0 0)], true⟩, some ⟨3, .li .i64 r, true⟩, some ⟨3, .li .i64 c, true⟩, some ⟨3, .li .i64 pr, true⟩, some ⟨3, .li .i64 pc, true⟩]) := by
  have hg' := hg
  simp only [Bool.and_eq_true, decide_eq_true_eq] at hg'
  obtain ⟨⟨hok, hn⟩, hc2⟩ := hg'
  have hx := (delOk_iff.1 hok).1
  have hkl := keep_len c l
  refine callN_fact hN hM T_delC00_ok (n := 1001) (mode := mode11) ?_
  rw [delC01F_eq]
  unfold delC01F delC01F_s1
  rw [grd_of hg, br_if]
  rcases gone_cases c l with ⟨h1, h2⟩ | ⟨q, h1, h2, h3⟩
  · rw [if_pos (by rw [h1]; decide), h2, Nat.sub_self, List.replicate_zero, List.append_nil, hn]
  · rw [if_neg (by rw [h2]; simp), h2, wrap_i64 (by omega) (by omega)]
    dsimp only
    have hl : (keepC c (l.take (q + 1))).length = q := by rw [h3, List.length_take]; omega
    have hloop := fun k0 r0 hk => delC01_loop (R := Out) 1001 nl n m n1 n2 x2 x3 r c pr pc l hok hn hc2 k0 r0 hk 1001 (q + 1) l (by omega) (by omega) rfl (by rw [hl, h3]) rfl
    rw [hl, show ((q + 1 : Nat) : Int) = (q : Int) + 1 by omega] at hloop
    refine hloop _ _ fun Y hY hT => ?_
    unfold delC01F_s3
    have eu : upTo ((keepC c l).length : Int) nl = some (keepC c l).length := by rw [hn, upTo_of (by omega) (by omega)]; rfl
    rw [bnd_of eu, bnd_of eu, Nat.zero_add, hT, Nat.sub_zero, hn, List.length_replicate, List.drop_eq_nil_of_le (by omega), List.append_nil]
noncomputable def delC01_ent : List V → List Blk → Option (Bool × Out)
  | [.sl 0 1 0 nl, .fn (.func 112) [] [.ptr 1 1 0 0]], [⟨3, .li .i64 l, true⟩, ⟨98, .agg [.ptr 2 8 0 0], true⟩, ⟨100, .agg [.s (.int .i64 n), .lt (.pair (.int .i64) (.sl (.int .u64))) m, .sl 3 1 0 n1, .sl 4 1 0 n2, .s (.slice none 0 0), .sl 5 1 0 x2, .sl 6 1 0 x3, .s (.slice none 0 0)], true⟩, ⟨3, .li .i64 r, true⟩, ⟨3, .li .i64 c, true⟩, ⟨3, .li .i64 pr, true⟩, ⟨3, .li .i64 pc, true⟩] => some ((delOk c l && decide (nl = l.length) && decide (n2 = c.length)), (.sl 0 1 0 ((keepC c l).length), [some ⟨3, .li .i64 (keepC c l ++ List.replicate (l.length - (keepC c l).length) 0), true⟩, some ⟨98, .agg [.ptr 2 8 0 0], true⟩, some ⟨100, .agg [.s (.int .i64 n), .lt (.pair (.int .i64) (.sl (.int .u64))) m, .sl 3 1 0 n1, .sl 4 1 0 n2, .s (.slice none 0 0), .sl 5 1 0 x2, .sl 6 1 0 x3, .s (.slice none 0 0)], true⟩, some ⟨3, .li .i64 r, true⟩, some ⟨3, .li .i64 c, true⟩, some ⟨3, .li .i64 pr, true⟩, some ⟨3, .li .i64 pc, true⟩]))
  | _, _ => none
theorem delC01_ok : ∀ args bs out, delC01_ent args bs = some (true, out) → Fact Tryd.prog gTab 111 args bs out := by
  intro args bs out h
  unfold delC01_ent at h
  split at h
  · rename_i nl l n m n1 n2 x2 x3 r c pr pc
    simp only [Option.some.injEq, Prod.mk.injEq] at h
    obtain ⟨hg, rfl⟩ := h
    exact delC01_fact nl l n m n1 n2 x2 x3 r c pr pc hg
  · cases h
noncomputable def T_delC01 : Tbl := Tbl.cons 111 delC01_ent T_delC00
theorem T_delC01_ok : CallOk Tryd.prog gTab T_delC01 := cons_ok T_delC00_ok delC01_ok
/-! slices.DeleteFunc[[]int,int] -/
noncomputable abbrev qb22 (n : Int) (m : List (Int × List Int)) (n1 : Nat) (n2 : Nat) (x1 : Nat) : Nat × Option Blk := (2, some ⟨100, .agg [vI n, vR m, .sl 3 1 0 n1, .sl 4 1 0 n2, .sl 5 1 0 x1, vN, vN, vN], true⟩)
noncomputable abbrev qb23 : Nat × Option Blk := (1, some ⟨98, .agg [.ptr 2 8 0 0], true⟩)
noncomputable abbrev qb24 (fuel : Nat) : Ctx Out := (fnX Tryd.prog mode11 T_delC01 fuel 42 6)
noncomputable abbrev qb25 : Code := (sub (bodyOf Tryd.prog 111) [1, 1, 1, 0, 1, 0, 0])
noncomputable abbrev qb26 : Nat × V := (1, .fn (.func 112) [] [.ptr 1 1 0 0])
noncomputable def delC10F_s2 {R : Type} (w0 : Int) (nl : Nat) (w1 c : List Int) (n2 : Nat) (w2 n : Int) (m : List (Int × List Int)) (n1 x1 : Nat) (r pi : List Int) (c0 c1 : Int → Int → List Int → Option R) (c2 : Int → List Int → Option R) : Option R :=
  br (decide (w0 < ((nl : Nat) : Int)))
    (bnd (below w0 nl) fun j0 =>
    bnd (w1[(0 + j0)]?) fun e0 =>
    grd (decide (0 ≤ e0) && decide (e0 < (c.length : Int)) && decide (n2 = c.length)) <|
    br (!(goneB c e0))
      (bnd (below w2 nl) fun j1 =>
      bnd (w1[(0 + j1)]?) fun e1 =>
      c0 (IntKind.i64.wrap (w2 + 1)) (IntKind.i64.wrap (w0 + 1)) (w1.set (0 + j1) e0))
      (c1 w2 (IntKind.i64.wrap (w0 + 1)) w1))
    (c2 w2 w1)
theorem delC10F_s2_eq (fuel k : Nat) (K : Ex → St → Option Out) (w0 : Int) (nl : Nat) (w1 c : List Int) (n2 : Nat) (w2 n : Int) (m : List (Int × List Int)) (n1 x1 : Nat) (r pi : List Int) : lpN qb25 (qb24 fuel) 4329327034417 [0, 1, 4, 5, 6] (k + 1) ⟨[(0, .sl 0 1 0 nl), qb26, (4, vN), (5, vI w2), (6, vI w0)], [(0, bL 3 w1), qb23, (qb22 n m n1 n2 x1), (3, bL 3 r), (4, bL 3 c), (5, bL 3 pi)], 6, none⟩ K = delC10F_s2 w0 nl w1 c n2 w2 n m n1 x1 r pi (fun a0 a1 a2 => lpN qb25 (qb24 fuel) 4329327034417 [0, 1, 4, 5, 6] k ⟨[(0, .sl 0 1 0 nl), qb26, (4, vN), (5, vI a0), (6, vI a1)], [(0, bL 3 a2), qb23, (qb22 n m n1 n2 x1), (3, bL 3 r), (4, bL 3 c), (5, bL 3 pi)], 6, none⟩ K) (fun a3 a4 a5 => lpN qb25 (qb24 fuel) 4329327034417 [0, 1, 4, 5, 6] k ⟨[(0, .sl 0 1 0 nl), qb26, (4, vN), (5, vI a3), (6, vI a4)], [(0, bL 3 a5), qb23, (qb22 n m n1 n2 x1), (3, bL 3 r), (4, bL 3 c), (5, bL 3 pi)], 6, none⟩ K) (fun a6 a7 => K (.exit 0) ⟨[(0, .sl 0 1 0 nl), (4, vN), (5, vI a6)], [(0, bL 3 a7), qb23, (qb22 n m n1 n2 x1), (3, bL 3 r), (4, bL 3 c), (5, bL 3 pi)], 6, none⟩) := by kernel_rfl
noncomputable def delC10F_l1 {R : Type} (fuel nl : Nat) (n : Int) (m : List (Int × List Int)) (n1 n2 x1 : Nat) (r c pi : List Int) (k0 : Int → List Int → Option R) : Nat → Int → Int → List Int → Option R
  | 0, _, _, _ => none
  | k + 1, w0, w1, w2 =>
    (delC10F_s2 w1 nl w2 c n2 w0 n m n1 x1 r pi (fun a0 a1 a2 => ( delC10F_l1 fuel nl n m n1 n2 x1 r c pi k0 k a0 a1 a2 )) (fun a3 a4 a5 => ( delC10F_l1 fuel nl n m n1 n2 x1 r c pi k0 k a3 a4 a5 )) (fun a6 a7 => k0 a6 a7))
theorem delC10F_l1_eq (fuel nl : Nat) (n : Int) (m : List (Int × List Int)) (n1 n2 x1 : Nat) (r c pi : List Int) (K : Ex → St → Option Out) : ∀ (k : Nat) (w0 w1 : Int) (w2 : List Int), lpN qb25 (qb24 fuel) 4329327034417 [0, 1, 4, 5, 6] k ⟨[(0, .sl 0 1 0 nl), qb26, (4, vN), (5, vI w0), (6, vI w1)], [(0, bL 3 w2), qb23, (qb22 n m n1 n2 x1), (3, bL 3 r), (4, bL 3 c), (5, bL 3 pi)], 6, none⟩ K = delC10F_l1 fuel nl n m n1 n2 x1 r c pi (fun y0 y1 => K (.exit 0) ⟨[(0, .sl 0 1 0 nl), (4, vN), (5, vI y0)], [(0, bL 3 y1), qb23, (qb22 n m n1 n2 x1), (3, bL 3 r), (4, bL 3 c), (5, bL 3 pi)], 6, none⟩) k w0 w1 w2
  | 0, _, _, _ => rfl
  | k + 1, w0, w1, w2 => by
    unfold delC10F_l1
    exact (delC10F_s2_eq fuel k K w1 nl w2 c n2 w0 n m n1 x1 r pi).trans (congr (congr (congr (Eq.refl (delC10F_s2 (R := Out) w1 nl w2 c n2 w0 n m n1 x1 r pi)) (funext fun a0 => funext fun a1 => funext fun a2 => delC10F_l1_eq fuel nl n m n1 n2 x1 r c pi K k a0 a1 a2)) (funext fun a3 => funext fun a4 => funext fun a5 => delC10F_l1_eq fuel nl n m n1 n2 x1 r c pi K k a3 a4 a5)) (rfl))
noncomputable def delC10F_s3 {R : Type} (x0 : Int) (nl : Nat) (x2 : List Int) (n : Int) (m : List (Int × List Int)) (n1 n2 x1 : Nat) (r c pi : List Int) (c0 : Nat → Nat → List Int → Nat → Int → (List (Int × List Int)) → Nat → Nat → Nat → Nat → Nat → Nat → List Int → List Int → List Int → Option R) : Option R :=
  bnd (upTo x0 nl) fun j0 =>
  bnd (upTo x0 nl) fun j1 =>
  c0 0 (j1 - 0) (x2.take (0 + j0) ++ (List.replicate (nl - j0) (0 : Int)) ++ x2.drop ((0 + j0) + (List.replicate (nl - j0) (0 : Int)).length)) 0 n m 0 n1 0 n2 0 x1 r c pi
theorem delC10F_s3_eq (fuel : Nat)  (x0 : Int) (nl : Nat) (x2 : List Int) (n : Int) (m : List (Int × List Int)) (n1 n2 x1 : Nat) (r c pi : List Int) : (kont (qb24 fuel) (bodyOf Tryd.prog 111) [1, 1, 1, 0, 1, 0] 16 (endK Tryd.prog 2 6 111)) (.exit 0) ⟨[(0, .sl 0 1 0 nl), (4, vN), (5, vI x0)], [(0, bL 3 x2), qb23, (qb22 n m n1 n2 x1), (3, bL 3 r), (4, bL 3 c), (5, bL 3 pi)], 6, none⟩ = delC10F_s3 x0 nl x2 n m n1 n2 x1 r c pi (fun a0 a1 a2 a3 a4 a5 a6 a7 a8 a9 a60 a61 a62 a63 a64 => some (.sl 0 1 a0 a1, [bL 3 a2, some ⟨98, .agg [.ptr 2 8 a3 0], true⟩, some ⟨100, .agg [vI a4, vR a5, .sl 3 1 a6 a7, .sl 4 1 a8 a9, .sl 5 1 a60 a61, vN, vN, vN], true⟩, bL 3 a62, bL 3 a63, bL 3 a64])) := by kernel_rfl
noncomputable def delC10F_s1 {R : Type} (c l : List Int) (nl n2 : Nat) (n : Int) (m : List (Int × List Int)) (n1 x1 : Nat) (r pi : List Int) (c0 : Nat → Nat → List Int → Nat → Int → (List (Int × List Int)) → Nat → Nat → Nat → Nat → Nat → Nat → List Int → List Int → List Int → Option R) (c1 : Int → Int → List Int → Option R) : Option R :=
  grd (delOk c l && decide (nl = l.length) && decide (n2 = c.length)) <|
  br (((goneAt c l) : Int) == (-1))
    (c0 0 nl l 0 n m 0 n1 0 n2 0 x1 r c pi)
    (c1 (goneAt c l) (IntKind.i64.wrap ((goneAt c l) + 1)) l)
theorem delC10F_s1_eq (fuel : Nat)  (c l : List Int) (nl n2 : Nat) (n : Int) (m : List (Int × List Int)) (n1 x1 : Nat) (r pi : List Int) : callN Tryd.prog mode11 T_delC01 fuel 111 [.sl 0 1 0 nl, .fn (.func 112) [] [.ptr 1 1 0 0]] [⟨3, vL l, true⟩, ⟨98, .agg [.ptr 2 8 0 0], true⟩, ⟨100, .agg [vI n, vR m, .sl 3 1 0 n1, .sl 4 1 0 n2, .sl 5 1 0 x1, vN, vN, vN], true⟩, ⟨3, vL r, true⟩, ⟨3, vL c, true⟩, ⟨3, vL pi, true⟩] = delC10F_s1 c l nl n2 n m n1 x1 r pi (fun a1 a2 a3 a4 a5 a6 a7 a8 a9 a0 a11 a12 a13 a14 a15 => some (.sl 0 1 a1 a2, [bL 3 a3, some ⟨98, .agg [.ptr 2 8 a4 0], true⟩, some ⟨100, .agg [vI a5, vR a6, .sl 3 1 a7 a8, .sl 4 1 a9 a0, .sl 5 1 a11 a12, vN, vN, vN], true⟩, bL 3 a13, bL 3 a14, bL 3 a15])) (fun a43 a44 a45 => lpN qb25 (qb24 fuel) 4329327034417 [0, 1, 4, 5, 6] fuel ⟨[(0, .sl 0 1 0 nl), qb26, (4, vN), (5, vI a43), (6, vI a44)], [(0, bL 3 a45), qb23, (qb22 n m n1 n2 x1), (3, bL 3 r), (4, bL 3 c), (5, bL 3 pi)], 6, none⟩ (kont (qb24 fuel) (bodyOf Tryd.prog 111) [1, 1, 1, 0, 1, 0] 16 (endK Tryd.prog 2 6 111))) := by kernel_rfl
noncomputable def delC10F {R : Type} (fuel nl : Nat) (l : List Int) (n : Int) (m : List (Int × List Int)) (n1 n2 x1 : Nat) (r c pi : List Int) (r0 : Nat → Nat → List Int → Nat → Int → (List (Int × List Int)) → Nat → Nat → Nat → Nat → Nat → Nat → List Int → List Int → List Int → Option R) : Option R :=
  (delC10F_s1 c l nl n2 n m n1 x1 r pi (fun a1 a2 a3 a4 a5 a6 a7 a8 a9 a0 a11 a12 a13 a14 a15 => r0 a1 a2 a3 a4 a5 a6 a7 a8 a9 a0 a11 a12 a13 a14 a15) (fun a43 a44 a45 => (delC10F_l1 fuel nl n m n1 n2 x1 r c pi (fun x0 x2 => (delC10F_s3 x0 nl x2 n m n1 n2 x1 r c pi (fun a50 a51 a52 a53 a54 a55 a56 a57 a58 a59 a60 a61 a62 a63 a64 => r0 a50 a51 a52 a53 a54 a55 a56 a57 a58 a59 a60 a61 a62 a63 a64))) fuel a43 a44 a45)))
theorem delC10F_eq (fuel nl : Nat) (l : List Int) (n : Int) (m : List (Int × List Int)) (n1 n2 x1 : Nat) (r c pi : List Int) : callN Tryd.prog mode11 T_delC01 fuel 111 [.sl 0 1 0 nl, .fn (.func 112) [] [.ptr 1 1 0 0]] [⟨3, .li .i64 l, true⟩, ⟨98, .agg [.ptr 2 8 0 0], true⟩, ⟨100, .agg [.s (.int .i64 n), .lt (.pair (.int .i64) (.sl (.int .u64))) m, .sl 3 1 0 n1, .sl 4 1 0 n2, .sl 5 1 0 x1, .s (.slice none 0 0), .s (.slice none 0 0), .s (.slice none 0 0)], true⟩, ⟨3, .li .i64 r, true⟩, ⟨3, .li .i64 c, true⟩, ⟨3, .li .i64 pi, true⟩] = delC10F fuel nl l n m n1 n2 x1 r c pi (fun z0 z1 z2 z3 z4 z5 z6 z7 z8 z9 z10 z11 z12 z13 z14 => some (.sl 0 1 z0 z1, [some ⟨3, .li .i64 z2, true⟩, some ⟨98, .agg [.ptr 2 8 z3 0], true⟩, some ⟨100, .agg [.s (.int .i64 z4), .lt (.pair (.int .i64) (.sl (.int .u64))) z5, .sl 3 1 z6 z7, .sl 4 1 z8 z9, .sl 5 1 z10 z11, .s (.slice none 0 0), .s (.slice none 0 0), .s (.slice none 0 0)], true⟩, some ⟨3, .li .i64 z12, true⟩, some ⟨3, .li .i64 z13, true⟩, some ⟨3, .li .i64 z14, true⟩])) := by
  unfold delC10F
  exact (delC10F_s1_eq fuel  c l nl n2 n m n1 x1 r pi).trans (congr (congr (Eq.refl (delC10F_s1 (R := Out) c l nl n2 n m n1 x1 r pi)) (rfl)) (funext fun a0 => funext fun a1 => funext fun a2 => (delC10F_l1_eq fuel nl n m n1 n2 x1 r c pi (kont (qb24 fuel) (bodyOf Tryd.prog 111) [1, 1, 1, 0, 1, 0] 16 (endK Tryd.prog 2 6 111)) fuel a0 a1 a2).trans (congrFun (congrFun (congrFun (congrFun (congr (Eq.refl (delC10F_l1 (R := Out) fuel nl n m n1 n2 x1 r c pi)) (funext fun x0 => funext fun x2 => (delC10F_s3_eq fuel  x0 nl x2 n m n1 n2 x1 r c pi))) fuel) a0) a1) a2)))
theorem delC10_loop {R : Type} (fuel : Nat) (nl : Nat) (n : Int) (m : List (Int × List Int)) (n1 : Nat) (n2 : Nat) (x1 : Nat) (r : List Int) (c : List Int) (pi : List Int) (l : List Int) (hok : delOk c l = true) (hn : nl = l.length) (hc2 : n2 = c.length) (k0 : Int → List Int → Option R) (r0 : Option R) (hk : ∀ Y : List Int, Y.length = l.length → Y.take (keepC c l).length = keepC c l → k0 ((keepC c l).length : Int) Y = r0) : ∀ (k j : Nat) (X : List Int), j ≤ l.length → l.length < j + k → X.length = l.length → X.take (keepC c (l.take j)).length = keepC c (l.take j) → X.drop j = l.drop j → delC10F_l1 fuel nl n m n1 n2 x1 r c pi k0 k ((keepC c (l.take j)).length : Int) (j : Int) X = r0
  | 0, j, X, h1, h2, _, _, _ => by omega
  | k + 1, j, X, h1, h2, hX, hT, hD => by
    obtain ⟨hx, hr⟩ := delOk_iff.1 hok
    unfold delC10F_l1 delC10F_s2
    rw [br_if]
    by_cases hc : j < l.length
    · have hw := hr _ (List.getElem_mem hc)
      have hkl := keep_len c (l.take j)
      rw [List.length_take] at hkl
      have hjX : j < X.length := by omega
      have eX : X[j] = l[j] := by
        have := congrArg List.head? hD
        rw [List.head?_drop, List.head?_drop, List.getElem?_eq_getElem hjX, List.getElem?_eq_getElem hc] at this
        exact Option.some.inj this
      have hD1 : X.drop (j + 1) = l.drop (j + 1) := by
        have := congrArg (List.drop 1) hD
        rwa [List.drop_drop, List.drop_drop] at this
      have eb : below (j : Int) nl = some j := by rw [hn, below_of (by omega) (by omega)]; rfl
      have el : X[0 + j]? = some X[j] := by rw [Nat.zero_add]; exact List.getElem?_eq_getElem hjX
      have hs := keep_snoc c (l.take j) l[j]
      rw [← List.take_succ_eq_append_getElem hc] at hs
      rw [if_pos (by simp; omega), bnd_of eb, bnd_of el, eX, grd_of (by simp; omega), br_if]
      by_cases h : goneB c l[j] = true
      · rw [if_pos h, List.append_nil] at hs
        rw [if_neg (by simp [h]), wrap_i64 (by omega) (by omega), show (j : Int) + 1 = ((j + 1 : Nat) : Int) by omega, ← hs]
        exact delC10_loop fuel nl n m n1 n2 x1 r c pi l hok hn hc2 k0 r0 hk k (j + 1) X (by omega) (by omega) hX (by rw [hs]; exact hT) hD1
      · rw [if_neg h] at hs
        have hp : (keepC c (l.take j)).length < X.length := by omega
        have eb2 : below ((keepC c (l.take j)).length : Int) nl = some (keepC c (l.take j)).length := by rw [hn, below_of (by omega) (by omega)]; rfl
        have el2 : X[0 + (keepC c (l.take j)).length]? = some (X[(keepC c (l.take j)).length]'hp) := by rw [Nat.zero_add]; exact List.getElem?_eq_getElem hp
        have hlen : (keepC c (l.take (j + 1))).length = (keepC c (l.take j)).length + 1 := by rw [hs]; simp
        rw [if_pos (by simp [h]), bnd_of eb2, bnd_of el2, wrap_i64 (by omega) (by omega), wrap_i64 (by omega) (by omega), show (j : Int) + 1 = ((j + 1 : Nat) : Int) by omega, show ((keepC c (l.take j)).length : Int) + 1 = ((keepC c (l.take (j + 1))).length : Int) by omega, Nat.zero_add]
        refine delC10_loop fuel nl n m n1 n2 x1 r c pi l hok hn hc2 k0 r0 hk k (j + 1) _ (by omega) (by omega) (by rw [List.length_set]; exact hX) ?_ ?_
        · rw [hlen, List.take_succ_eq_append_getElem (by rw [List.length_set]; exact hp), List.getElem_set_self, List.take_set_of_le (Nat.le_refl _), hT, hs]
        · rw [List.drop_set_of_lt (by omega)]; exact hD1
    · have e : j = l.length := by omega
      subst e
      rw [if_neg (by simp; omega)]
      rw [List.take_length] at hT ⊢
      exact hk X hX hT
theorem delC10_fact (nl : Nat) (l : List Int) (n : Int) (m : List (Int × List Int)) (n1 : Nat) (n2 : Nat) (x1 : Nat) (r : List Int) (c : List Int) (pi : List Int) (hg : (delOk c l && decide (nl = l.length) && decide (n2 = c.length)) = true) : Fact Tryd.prog gTab 111 [.sl 0 1 0 nl, .fn (.func 112) [] [.ptr 1 1 0 0]] [⟨3, .li .i64 l, true⟩, ⟨98, .agg [.ptr 2 8 0 0], true⟩, ⟨100, .agg [.s (.int .i64 n), .lt (.pair (.int .i64) (.sl (.int .u64))) m, .sl 3 1 0 n1, .sl 4 1 0 n2, .sl 5 1 0 x1, .s (.slice none 0 0), .s (.slice none 0 0), .s (.slice none 0 0)], true⟩, ⟨3, .li .i64 r, true⟩, ⟨3, .li .i64 c, true⟩, ⟨3, .li .i64 pi, true⟩] (.sl 0 1 0 ((keepC c l).length), [some ⟨3, .li .i64 (keepC c l ++ List.replicate (l.length - (keepC c l).length) 0), true⟩, some ⟨98, .agg [.ptr 2 8 0 0], true⟩, some ⟨100, .agg [.s (.int .i64 n), .lt (.pair (.int .i64) (.sl (.int .u64))) m, .sl 3 1 0 n1, .sl 4 1 0 n2, .sl 5 1 0 x1, .s (.slice none 0 0), .s (.slice none 0 0), .s (.slice none 0 0)], true⟩, some ⟨3, .li .i64 r, true⟩, some ⟨3, .li .i64 c, true⟩, some ⟨3, .li .i64 pi, true⟩]) := by
  have hg' := hg
  simp only [Bool.and_eq_true, decide_eq_true_eq] at hg'
  obtain ⟨⟨hok, hn⟩, hc2⟩ := hg'
  have hx := (delOk_iff.1 hok).1
  have hkl := keep_len c l
  refine callN_fact hN hM T_delC01_ok (n := 1001) (mode := mode11) ?_
  rw [delC10F_eq]
  unfold delC10F delC10F_s1
  rw [grd_of hg, br_if]
  rcases gone_cases c l with ⟨h1, h2⟩ | ⟨q, h1, h2, h3⟩
  · rw [if_pos (by rw [h1]; decide), h2, Nat.sub_self, List.replicate_zero, List.append_nil, hn]
  · rw [if_neg (by rw [h2]; simp), h2, wrap_i64 (by omega) (by omega)]
    dsimp only
    have hl : (keepC c (l.take (q + 1))).length = q := by rw [h3, List.length_take]; omega
    have hloop := fun k0 r0 hk => delC10_loop (R := Out) 1001 nl n m n1 n2 x1 r c pi l hok hn hc2 k0 r0 hk 1001 (q + 1) l (by omega) (by omega) rfl (by rw [hl, h3]) rfl
    rw [hl, show ((q + 1 : Nat) : Int) = (q : Int) + 1 by omega] at hloop
    refine hloop _ _ fun Y hY hT => ?_
    unfold delC10F_s3
    have eu : upTo ((keepC c l).length : Int) nl = some (keepC c l).length := by rw [hn, upTo_of (by omega) (by omega)]; rfl
    rw [bnd_of eu, bnd_of eu, Nat.zero_add, hT, Nat.sub_zero, hn, List.length_replicate, List.drop_eq_nil_of_le (by omega), List.append_nil]
noncomputable def delC10_ent : List V → List Blk → Option (Bool × Out)
  | [.sl 0 1 0 nl, .fn (.func 112) [] [.ptr 1 1 0 0]], [⟨3, .li .i64 l, true⟩, ⟨98, .agg [.ptr 2 8 0 0], true⟩, ⟨100, .agg [.s (.int .i64 n), .lt (.pair (.int .i64) (.sl (.int .u64))) m, .sl 3 1 0 n1, .sl 4 1 0 n2, .sl 5 1 0 x1, .s (.slice none 0 0), .s (.slice none 0 0), .s (.slice none 0 0)], true⟩, ⟨3, .li .i64 r, true⟩, ⟨3, .li .i64 c, true⟩, ⟨3, .li .i64 pi, true⟩] => some ((delOk c l && decide (nl = l.length) && decide (n2 = c.length)), (.sl 0 1 0 ((keepC c l).length), [some ⟨3, .li .i64 (keepC c l ++ List.replicate (l.length - (keepC c l).length) 0), true⟩, some ⟨98, .agg [.ptr 2 8 0 0], true⟩, some ⟨100, .agg [.s (.int .i64 n), .lt (.pair (.int .i64) (.sl (.int .u64))) m, .sl 3 1 0 n1, .sl 4 1 0 n2, .sl 5 1 0 x1, .s (.slice none 0 0), .s (.slice none 0 0), .s (.slice none 0 0)], true⟩, some ⟨3, .li .i64 r, true⟩, some ⟨3, .li .i64 c, true⟩, some ⟨3, .li .i64 pi, true⟩]))
  | _, _ => none
theorem delC10_ok : ∀ args bs out, delC10_ent args bs = some (true, out) → Fact Tryd.prog gTab 111 args bs out := by
  intro args bs out h
  unfold delC10_ent at h
  split at h
  · rename_i nl l n m n1 n2 x1 r c pi
    simp only [Option.some.injEq, Prod.mk.injEq] at h
    obtain ⟨hg, rfl⟩ := h
    exact delC10_fact nl l n m n1 n2 x1 r c pi hg
  · cases h
noncomputable def T_delC10 : Tbl := Tbl.cons 111 delC10_ent T_delC01
theorem T_delC10_ok : CallOk Tryd.prog gTab T_delC10 := cons_ok T_delC01_ok delC10_ok
/-! slices.DeleteFunc[[]int,int] -/
noncomputable abbrev qb27 (n : Int) (m : List (Int × List Int)) (n1 : Nat) (n2 : Nat) (x1 : Nat) (x2 : Nat) (x3 : Nat) : Nat × Option Blk := (2, some ⟨100, .agg [vI n, vR m, .sl 3 1 0 n1, .sl 4 1 0 n2, .sl 5 1 0 x1, .sl 6 1 0 x2, .sl 7 1 0 x3, vN], true⟩)
noncomputable abbrev qb28 : Nat × Option Blk := (1, some ⟨98, .agg [.ptr 2 8 0 0], true⟩)
noncomputable abbrev qb29 (fuel : Nat) : Ctx Out := (fnX Tryd.prog mode11 T_delC10 fuel 42 8)
noncomputable abbrev qb30 : Code := (sub (bodyOf Tryd.prog 111) [1, 1, 1, 0, 1, 0, 0])
noncomputable abbrev qb31 : Nat × V := (1, .fn (.func 112) [] [.ptr 1 1 0 0])
noncomputable def delC11F_s2 {R : Type} (w0 : Int) (nl : Nat) (w1 c : List Int) (n2 : Nat) (w2 n : Int) (m : List (Int × List Int)) (n1 x1 x2 x3 : Nat) (r pi pr pc : List Int) (c0 c1 : Int → Int → List Int → Option R) (c2 : Int → List Int → Option R) : Option R :=
  br (decide (w0 < ((nl : Nat) : Int)))
    (bnd (below w0 nl) fun j0 =>
    bnd (w1[(0 + j0)]?) fun e0 =>
    grd (decide (0 ≤ e0) && decide (e0 < (c.length : Int)) && decide (n2 = c.length)) <|
    br (!(goneB c e0))
      (bnd (below w2 nl) fun j1 =>
      bnd (w1[(0 + j1)]?) fun e1 =>
      c0 (IntKind.i64.wrap (w2 + 1)) (IntKind.i64.wrap (w0 + 1)) (w1.set (0 + j1) e0))
      (c1 w2 (IntKind.i64.wrap (w0 + 1)) w1))
    (c2 w2 w1)
theorem delC11F_s2_eq (fuel k : Nat) (K : Ex → St → Option Out) (w0 : Int) (nl : Nat) (w1 c : List Int) (n2 : Nat) (w2 n : Int) (m : List (Int × List Int)) (n1 x1 x2 x3 : Nat) (r pi pr pc : List Int) : lpN qb30 (qb29 fuel) 4329327034417 [0, 1, 4, 5, 6] (k + 1) ⟨[(0, .sl 0 1 0 nl), qb31, (4, vN), (5, vI w2), (6, vI w0)], [(0, bL 3 w1), qb28, (qb27 n m n1 n2 x1 x2 x3), (3, bL 3 r), (4, bL 3 c), (5, bL 3 pi), (6, bL 3 pr), (7, bL 3 pc)], 8, none⟩ K = delC11F_s2 w0 nl w1 c n2 w2 n m n1 x1 x2 x3 r pi pr pc (fun a0 a1 a2 => lpN qb30 (qb29 fuel) 4329327034417 [0, 1, 4, 5, 6] k ⟨[(0, .sl 0 1 0 nl), qb31, (4, vN), (5, vI a0), (6, vI a1)], [(0, bL 3 a2), qb28, (qb27 n m n1 n2 x1 x2 x3), (3, bL 3 r), (4, bL 3 c), (5, bL 3 pi), (6, bL 3 pr), (7, bL 3 pc)], 8, none⟩ K) (fun a3 a4 a5 => lpN qb30 (qb29 fuel) 4329327034417 [0, 1, 4, 5, 6] k ⟨[(0, .sl 0 1 0 nl), qb31, (4, vN), (5, vI a3), (6, vI a4)], [(0, bL 3 a5), qb28, (qb27 n m n1 n2 x1 x2 x3), (3, bL 3 r), (4, bL 3 c), (5, bL 3 pi), (6, bL 3 pr), (7, bL 3 pc)], 8, none⟩ K) (fun a6 a7 => K (.exit 0) ⟨[(0, .sl 0 1 0 nl), (4, vN), (5, vI a6)], [(0, bL 3 a7), qb28, (qb27 n m n1 n2 x1 x2 x3), (3, bL 3 r), (4, bL 3 c), (5, bL 3 pi), (6, bL 3 pr), (7, bL 3 pc)], 8, none⟩) := by kernel_rfl
noncomputable def delC11F_l1 {R : Type} (fuel nl : Nat) (n : Int) (m : List (Int × List Int)) (n1 n2 x1 x2 x3 : Nat) (r c pi pr pc : List Int) (k0 : Int → List Int → Option R) : Nat → Int → Int → List Int → Option R
  | 0, _, _, _ => none
  | k + 1, w0, w1, w2 =>
    (delC11F_s2 w1 nl w2 c n2 w0 n m n1 x1 x2 x3 r pi pr pc (fun a0 a1 a2 => ( delC11F_l1 fuel nl n m n1 n2 x1 x2 x3 r c pi pr pc k0 k a0 a1 a2 )) (fun a3 a4 a5 => ( delC11F_l1 fuel nl n m n1 n2 x1 x2 x3 r c pi pr pc k0 k a3 a4 a5 )) (fun a6 a7 => k0 a6 a7))
theorem delC11F_l1_eq (fuel nl : Nat) (n : Int) (m : List (Int × List Int)) (n1 n2 x1 x2 x3 : Nat) (r c pi pr pc : List Int) (K : Ex → St → Option Out) : ∀ (k : Nat) (w0 w1 : Int) (w2 : List Int), lpN qb30 (qb29 fuel) 4329327034417 [0, 1, 4, 5, 6] k ⟨[(0, .sl 0 1 0 nl), qb31, (4, vN), (5, vI w0), (6, vI w1)], [(0, bL 3 w2), qb28, (qb27 n m n1 n2 x1 x2 x3), (3, bL 3 r), (4, bL 3 c), (5, bL 3 pi), (6, bL 3 pr), (7, bL 3 pc)], 8, none⟩ K = delC11F_l1 fuel nl n m n1 n2 x1 x2 x3 r c pi pr pc (fun y0 y1 => K (.exit 0) ⟨[(0, .sl 0 1 0 nl), (4, vN), (5, vI y0)], [(0, bL 3 y1), qb28, (qb27 n m n1 n2 x1 x2 x3), (3, bL 3 r), (4, bL 3 c), (5, bL 3 pi), (6, bL 3 pr), (7, bL 3 pc)], 8, none⟩) k w0 w1 w2
  | 0, _, _, _ => rfl
  | k + 1, w0, w1, w2 => by
    unfold delC11F_l1
    exact (delC11F_s2_eq fuel k K w1 nl w2 c n2 w0 n m n1 x1 x2 x3 r pi pr pc).trans (congr (congr (congr (Eq.refl (delC11F_s2 (R := Out) w1 nl w2 c n2 w0 n m n1 x1 x2 x3 r pi pr pc)) (funext fun a0 => funext fun a1 => funext fun a2 => delC11F_l1_eq fuel nl n m n1 n2 x1 x2 x3 r c pi pr pc K k a0 a1 a2)) (funext fun a3 => funext fun a4 => funext fun a5 => delC11F_l1_eq fuel nl n m n1 n2 x1 x2 x3 r c pi pr pc K k a3 a4 a5)) (rfl))
noncomputable def delC11F_s3 {R : Type} (x0 : Int) (nl : Nat) (x4 : List Int) (n : Int) (m : List (Int × List Int)) (n1 n2 x1 x2 x3 : Nat) (r c pi pr pc : List Int) (c0 : Nat → Nat → List Int → Nat → Int → (List (Int × List Int)) → Nat → Nat → Nat → Nat → Nat → Nat → Nat → Nat → Nat → Nat → List Int → List Int → List Int → List Int → List Int → Option R) : Option R :=
  bnd (upTo x0 nl) fun j0 =>
  bnd (upTo x0 nl) fun j1 =>
  c0 0 (j1 - 0) (x4.take (0 + j0) ++ (List.replicate (nl - j0) (0 : Int)) ++ x4.drop ((0 + j0) + (List.replicate (nl - j0) (0 : Int)).length)) 0 n m 0 n1 0 n2 0 x1 0 x2 0 x3 r c pi pr pc
theorem delC11F_s3_eq (fuel : Nat)  (x0 : Int) (nl : Nat) (x4 : List Int) (n : Int) (m : List (Int × List Int)) (n1 n2 x1 x2 x3 : Nat) (r c pi pr pc : List Int) : (kont (qb29 fuel) (bodyOf Tryd.prog 111) [1, 1, 1, 0, 1, 0] 16 (endK Tryd.prog 2 8 111)) (.exit 0) ⟨[(0, .sl 0 1 0 nl), (4, vN), (5, vI x0)], [(0, bL 3 x4), qb28, (qb27 n m n1 n2 x1 x2 x3), (3, bL 3 r), (4, bL 3 c), (5, bL 3 pi), (6, bL 3 pr), (7, bL 3 pc)], 8, none⟩ = delC11F_s3 x0 nl x4 n m n1 n2 x1 x2 x3 r c pi pr pc (fun a0 a1 a2 a3 a4 a5 a6 a7 a8 a9 a66 a67 a68 a69 a70 a71 a72 a73 a74 a75 a76 => some (.sl 0 1 a0 a1, [bL 3 a2, some ⟨98, .agg [.ptr 2 8 a3 0], true⟩, some ⟨100, .agg [vI a4, vR a5, .sl 3 1 a6 a7, .sl 4 1 a8 a9, .sl 5 1 a66 a67, .sl 6 1 a68 a69, .sl 7 1 a70 a71, vN], true⟩, bL 3 a72, bL 3 a73, bL 3 a74, bL 3 a75, bL 3 a76])) := by kernel_rfl
noncomputable def delC11F_s1 {R : Type} (c l : List Int) (nl n2 : Nat) (n : Int) (m : List (Int × List Int)) (n1 x1 x2 x3 : Nat) (r pi pr pc : List Int) (c0 : Nat → Nat → List Int → Nat → Int → (List (Int × List Int)) → Nat → Nat → Nat → Nat → Nat → Nat → Nat → Nat → Nat → Nat → List Int → List Int → List Int → List Int → List Int → Option R) (c1 : Int → Int → List Int → Option R) : Option R :=
  grd (delOk c l && decide (nl = l.length) && decide (n2 = c.length)) <|
  br (((goneAt c l) : Int) == (-1))
    (c0 0 nl l 0 n m 0 n1 0 n2 0 x1 0 x2 0 x3 r c pi pr pc)
    (c1 (goneAt c l) (IntKind.i64.wrap ((goneAt c l) + 1)) l)
theorem delC11F_s1_eq (fuel : Nat)  (c l : List Int) (nl n2 : Nat) (n : Int) (m : List (Int × List Int)) (n1 x1 x2 x3 : Nat) (r pi pr pc : List Int) : callN Tryd.prog mode11 T_delC10 fuel 111 [.sl 0 1 0 nl, .fn (.func 112) [] [.ptr 1 1 0 0]] [⟨3, vL l, true⟩, ⟨98, .agg [.ptr 2 8 0 0], true⟩, ⟨100, .agg [vI n, vR m, .sl 3 1 0 n1, .sl 4 1 0 n2, .sl 5 1 0 x1, .sl 6 1 0 x2, .sl 7 1 0 x3, vN], true⟩, ⟨3, vL r, true⟩, ⟨3, vL c, true⟩, ⟨3, vL pi, true⟩, ⟨3, vL pr, true⟩, ⟨3, vL pc, true⟩] = delC11F_s1 c l nl n2 n m n1 x1 x2 x3 r pi pr pc (fun a1 a2 a3 a4 a5 a6 a7 a8 a9 a0 a11 a12 a13 a14 a15 a16 a17 a18 a19 a20 a21 => some (.sl 0 1 a1 a2, [bL 3 a3, some ⟨98, .agg [.ptr 2 8 a4 0], true⟩, some ⟨100, .agg [vI a5, vR a6, .sl 3 1 a7 a8, .sl 4 1 a9 a0, .sl 5 1 a11 a12, .sl 6 1 a13 a14, .sl 7 1 a15 a16, vN], true⟩, bL 3 a17, bL 3 a18, bL 3 a19, bL 3 a20, bL 3 a21])) (fun a49 a50 a51 => lpN qb30 (qb29 fuel) 4329327034417 [0, 1, 4, 5, 6] fuel ⟨[(0, .sl 0 1 0 nl), qb31, (4, vN), (5, vI a49), (6, vI a50)], [(0, bL 3 a51), qb28, (qb27 n m n1 n2 x1 x2 x3), (3, bL 3 r), (4, bL 3 c), (5, bL 3 pi), (6, bL 3 pr), (7, bL 3 pc)], 8, none⟩ (kont (qb29 fuel) (bodyOf Tryd.prog 111) [1, 1, 1, 0, 1, 0] 16 (endK Tryd.prog 2 8 111))) := by kernel_rfl
noncomputable def delC11F {R : Type} (fuel nl : Nat) (l : List Int) (n : Int) (m : List (Int × List Int)) (n1 n2 x1 x2 x3 : Nat) (r c pi pr pc : List Int) (r0 : Nat → Nat → List Int → Nat → Int → (List (Int × List Int)) → Nat → Nat → Nat → Nat → Nat → Nat → Nat → Nat → Nat → Nat → List Int → List Int → List Int → List Int → List Int → Option R) : Option R :=
  (delC11F_s1 c l nl n2 n m n1 x1 x2 x3 r pi pr pc (fun a1 a2 a3 a4 a5 a6 a7 a8 a9 a0 a11 a12 a13 a14 a15 a16 a17 a18 a19 a20 a21 => r0 a1 a2 a3 a4 a5 a6 a7 a8 a9 a0 a11 a12 a13 a14 a15 a16 a17 a18 a19 a20 a21) (fun a49 a50 a51 => (delC11F_l1 fuel nl n m n1 n2 x1 x2 x3 r c pi pr pc (fun x0 x4 => (delC11F_s3 x0 nl x4 n m n1 n2 x1 x2 x3 r c pi pr pc (fun a56 a57 a58 a59 a60 a61 a62 a63 a64 a65 a66 a67 a68 a69 a70 a71 a72 a73 a74 a75 a76 => r0 a56 a57 a58 a59 a60 a61 a62 a63 a64 a65 a66 a67 a68 a69 a70 a71 a72 a73 a74 a75 a76))) fuel a49 a50 a51)))
theorem delC11F_eq (fuel nl : Nat) (l : List Int) (n : Int) (m : List (Int × List Int)) (n1 n2 x1 x2 x3 : Nat) (r c pi pr pc : List Int) : callN Tryd.prog mode11 T_delC10 fuel 111 [.sl 0 1 0 nl, .fn (.func 112) [] [.ptr 1 1 0 0]] [⟨3, .li .i64 l, true⟩, ⟨98, .agg [.ptr 2 8 0 0], true⟩, ⟨100, .agg [.s (.int .i64 n), .lt (.pair (.int .i64) (.sl (.int .u64))) m, .sl 3 1 0 n1, .sl 4 1 0 n2, .sl 5 1 0 x1, .sl 6 1 0 x2, .sl 7 1 0 x3, .s (.slice none 0 0)], true⟩, ⟨3, .li .i64 r, true⟩, ⟨3, .li .i64 c, true⟩, ⟨3, .li .i64 pi, true⟩, ⟨3, .li .i64 pr, true⟩, ⟨3, .li .i64 pc, true⟩] = delC11F fuel nl l n m n1 n2 x1 x2 x3 r c pi pr pc (fun z0 z1 z2 z3 z4 z5 z6 z7 z8 z9 z10 z11 z12 z13 z14 z15 z16 z17 z18 z19 z20 => some (.sl 0 1 z0 z1, [some ⟨3, .li .i64 z2, true⟩, some ⟨98, .agg [.ptr 2 8 z3 0], true⟩, some ⟨100, .agg [.s (.int .i64 z4), .lt (.pair (.int .i64) (.sl (.int .u64))) z5, .sl 3 1 z6 z7, .sl 4 1 z8 z9, .sl 5 1 z10 z11, .sl 6 1 z12 z13, .sl 7 1 z14 z15, .s (.slice none 0 0)], true⟩, some ⟨3, .li .i64 z16, true⟩, some ⟨3, .li .i64 z17, true⟩, some ⟨3, .li .i64 z18, true⟩, some ⟨3, .li .i64 z19, true⟩, some ⟨3, .li .i64 z20, true⟩])) := by
  unfold delC11F
  exact (delC11F_s1_eq fuel  c l nl n2 n m n1 x1 x2 x3 r pi pr pc).trans (congr (congr (Eq.refl (delC11F_s1 (R := Out) c l nl n2 n m n1 x1 x2 x3 r pi pr pc)) (rfl)) (funext fun a0 => funext fun a1 => funext fun a2 => (delC11F_l1_eq fuel nl n m n1 n2 x1 x2 x3 r c pi pr pc (kont (qb29 fuel) (bodyOf Tryd.prog 111) [1, 1, 1, 0, 1, 0] 16 (endK Tryd.prog 2 8 111)) fuel a0 a1 a2).trans (congrFun (congrFun (congrFun (congrFun (congr (Eq.refl (delC11F_l1 (R := Out) fuel nl n m n1 n2 x1 x2 x3 r c pi pr pc)) (funext fun x0 => funext fun x4 => (delC11F_s3_eq fuel  x0 nl x4 n m n1 n2 x1 x2 x3 r c pi pr pc))) fuel) a0) a1) a2)))
theorem delC11_loop {R : Type} (fuel : Nat) (nl : Nat) (n : Int) (m : List (Int × List Int)) (n1 : Nat) (n2 : Nat) (x1 : Nat) (x2 : Nat) (x3 : Nat) (r : List Int) (c : List Int) (pi : List Int) (pr : List Int) (pc : List Int) (l : List Int) (hok : delOk c l = true) (hn : nl = l.length) (hc2 : n2 = c.length) (k0 : Int → List Int → Option R) (r0 : Option R) (hk : ∀ Y : List Int, Y.length = l.length → Y.take (keepC c l).length = keepC c l → k0 ((keepC c l).length : Int) Y = r0) : ∀ (k j : Nat) (X : List Int), j ≤ l.length → l.length < j + k → X.length = l.length → X.take (keepC c (l.take j)).length = keepC c (l.take j) → X.drop j = l.drop j → delC11F_l1 fuel nl n m n1 n2 x1 x2 x3 r c pi pr pc k0 k ((keepC c (l.take j)).length : Int) (j : Int) X = r0
  | 0, j, X, h1, h2, _, _, _ => by omega
  | k + 1, j, X, h1, h2, hX, hT, hD => by
    obtain ⟨hx, hr⟩ := delOk_iff.1 hok
    unfold delC11F_l1 delC11F_s2
    rw [br_if]
    by_cases hc : j < l.length
    · have hw := hr _ (List.getElem_mem hc)
      have hkl := keep_len c (l.take j)
      rw [List.length_take] at hkl
      have hjX : j < X.length := by omega
      have eX : X[j] = l[j] := by
        have := congrArg List.head? hD
        rw [List.head?_drop, List.head?_drop, List.getElem?_eq_getElem hjX, List.getElem?_eq_getElem hc] at this
        exact Option.some.inj this
      have hD1 : X.drop (j + 1) = l.drop (j + 1) := by
        have := congrArg (List.drop 1) hD
        rwa [List.drop_drop, List.drop_drop] at this
      have eb : below (j : Int) nl = some j := by rw [hn, below_of (by omega) (by omega)]; rfl
      have el : X[0 + j]? = some X[j] := by rw [Nat.zero_add]; exact List.getElem?_eq_getElem hjX
      have hs := keep_snoc c (l.take j) l[j]
      rw [← List.take_succ_eq_append_getElem hc] at hs
      rw [if_pos (by simp; omega), bnd_of eb, bnd_of el, eX, grd_of (by simp; omega), br_if]
      by_cases h : goneB c l[j] = true
      · rw [if_pos h, List.append_nil] at hs
        rw [if_neg (by simp [h]), wrap_i64 (by omega) (by omega), show (j : Int) + 1 = ((j + 1 : Nat) : Int) by omega, ← hs]
        exact delC11_loop fuel nl n m n1 n2 x1 x2 x3 r c pi pr pc l hok hn hc2 k0 r0 hk k (j + 1) X (by omega) (by omega) hX (by rw [hs]; exact hT) hD1
      · rw [if_neg h] at hs
        have hp : (keepC c (l.take j)).length < X.length := by omega
        have eb2 : below ((keepC c (l.take j)).length : Int) nl = some (keepC c (l.take j)).length := by rw [hn, below_of (by omega) (by omega)]; rfl
        have el2 : X[0 + (keepC c (l.take j)).length]? = some (X[(keepC c (l.take j)).length]'hp) := by rw [Nat.zero_add]; exact List.getElem?_eq_getElem hp
        have hlen : (keepC c (l.take (j + 1))).length = (keepC c (l.take j)).length + 1 := by rw [hs]; simp
        rw [if_pos (by simp [h]), bnd_of eb2, bnd_of el2, wrap_i64 (by omega) (by omega), wrap_i64 (by omega) (by omega), show (j : Int) + 1 = ((j + 1 : Nat) : Int) by omega, show ((keepC c (l.take j)).length : Int) + 1 = ((keepC c (l.take (j + 1))).length : Int) by omega, Nat.zero_add]
        refine delC11_loop fuel nl n m n1 n2 x1 x2 x3 r c pi pr pc l hok hn hc2 k0 r0 hk k (j + 1) _ (by omega) (by omega) (by rw [List.length_set]; exact hX) ?_ ?_
        · rw [hlen, List.take_succ_eq_append_getElem (by rw [List.length_set]; exact hp), List.getElem_set_self, List.take_set_of_le (Nat.le_refl _), hT, hs]
        · rw [List.drop_set_of_lt (by omega)]; exact hD1
    · have e : j = l.length := by omega
      subst e
      rw [if_neg (by simp; omega)]
      rw [List.take_length] at hT ⊢
      exact hk X hX hT
theorem delC11_fact (nl : Nat) (l : List Int) (n : Int) (m : List (Int × List Int)) (n1 : Nat) (n2 : Nat) (x1 : Nat) (x2 : Nat) (x3 : Nat) (r : List Int) (c : List Int) (pi : List Int) (pr : List Int) (pc : List Int) (hg : (delOk c l && decide (nl = l.length) && decide (n2 = c.length)) = true) : Fact Tryd.prog gTab 111 [.sl 0 1 0 nl, .fn (.func 112) [] [.ptr 1 1 0 0]] [⟨3, .li .i64 l, true⟩, ⟨98, .agg [.ptr 2 8 0 0], true⟩, ⟨100, .agg [.s (.int .i64 n), .lt (.pair (.int .i64) (.sl (.int .u64))) m, .sl 3 1 0 n1, .sl 4 1 0 n2, .sl 5 1 0 x1, .sl 6 1 0 x2, .sl 7 1 0 x3, .s (.slice none 0 0)], true⟩, ⟨3, .li .i64 r, true⟩, ⟨3, .li .i64 c, true⟩, ⟨3, .li .i64 pi, true⟩, ⟨3, .li .i64 pr, true⟩, ⟨3, .li .i64 pc, true⟩] (.sl 0 1 0 ((keepC c l).length), [some ⟨3, .li .i64 (keepC c l ++ List.replicate (l.length - (keepC c l).length) 0), true⟩, some ⟨98, .agg [.ptr 2 8 0 0], true⟩, some ⟨100, .agg [.s (.int .i64 n), .lt (.pair (.int .i64) (.sl (.int .u64))) m, .sl 3 1 0 n1, .sl 4 1 0 n2, .sl 5 1 0 x1, .sl 6 1 0 x2, .sl 7 1 0 x3, .s (.slice none 0 0)], true⟩, some ⟨3, .li .i64 r, true⟩, some ⟨3, .li .i64 c, true⟩, some ⟨3, .li .i64 pi, true⟩, some ⟨3, .li .i64 pr, true⟩, some ⟨3, .li .i64 pc, true⟩]) := by
  have hg' := hg
  simp only [Bool.and_eq_true, decide_eq_true_eq] at hg'
  obtain ⟨⟨hok, hn⟩, hc2⟩ := hg'
  have hx := (delOk_iff.1 hok).1
  have hkl := keep_len c l
  refine callN_fact hN hM T_delC10_ok (n := 1001) (mode := mode11) ?_
  rw [delC11F_eq]
  unfold delC11F delC11F_s1
  rw [grd_of hg, br_if]
  rcases gone_cases c l with ⟨h1, h2⟩ | ⟨q, h1, h2, h3⟩
  · rw [if_pos (by rw [h1]; decide), h2, Nat.sub_self, List.replicate_zero, List.append_nil, hn]
  · rw [if_neg (by rw [h2]; simp), h2, wrap_i64 (by omega) (by omega)]
    dsimp only
    have hl : (keepC c (l.take (q + 1))).length = q := by rw [h3, List.length_take]; omega
    have hloop := fun k0 r0 hk => delC11_loop (R := Out) 1001 nl n m n1 n2 x1 x2 x3 r c pi pr pc l hok hn hc2 k0 r0 hk 1001 (q + 1) l (by omega) (by omega) rfl (by rw [hl, h3]) rfl
    rw [hl, show ((q + 1 : Nat) : Int) = (q : Int) + 1 by omega] at hloop
    refine hloop _ _ fun Y hY hT => ?_
    unfold delC11F_s3
    have eu : upTo ((keepC c l).length : Int) nl = some (keepC c l).length := by rw [hn, upTo_of (by omega) (by omega)]; rfl
    rw [bnd_of eu, bnd_of eu, Nat.zero_add, hT, Nat.sub_zero, hn, List.length_replicate, List.drop_eq_nil_of_le (by omega), List.append_nil]
noncomputable def delC11_ent : List V → List Blk → Option (Bool × Out)
  | [.sl 0 1 0 nl, .fn (.func 112) [] [.ptr 1 1 0 0]], [⟨3, .li .i64 l, true⟩, ⟨98, .agg [.ptr 2 8 0 0], true⟩, ⟨100, .agg [.s (.int .i64 n), .lt (.pair (.int .i64) (.sl (.int .u64))) m, .sl 3 1 0 n1, .sl 4 1 0 n2, .sl 5 1 0 x1, .sl 6 1 0 x2, .sl 7 1 0 x3, .s (.slice none 0 0)], true⟩, ⟨3, .li .i64 r, true⟩, ⟨3, .li .i64 c, true⟩, ⟨3, .li .i64 pi, true⟩, ⟨3, .li .i64 pr, true⟩, ⟨3, .li .i64 pc, true⟩] => some ((delOk c l && decide (nl = l.length) && decide (n2 = c.length)), (.sl 0 1 0 ((keepC c l).length), [some ⟨3, .li .i64 (keepC c l ++ List.replicate (l.length - (keepC c l).length) 0), true⟩, some ⟨98, .agg [.ptr 2 8 0 0], true⟩, some ⟨100, .agg [.s (.int .i64 n), .lt (.pair (.int .i64) (.sl (.int .u64))) m, .sl 3 1 0 n1, .sl 4 1 0 n2, .sl 5 1 0 x1, .sl 6 1 0 x2, .sl 7 1 0 x3, .s (.slice none 0 0)], true⟩, some ⟨3, .li .i64 r, true⟩, some ⟨3, .li .i64 c, true⟩, some ⟨3, .li .i64 pi, true⟩, some ⟨3, .li .i64 pr, true⟩, some ⟨3, .li .i64 pc, true⟩]))
  | _, _ => none
theorem delC11_ok : ∀ args bs out, delC11_ent args bs = some (true, out) → Fact Tryd.prog gTab 111 args bs out := by
  intro args bs out h
  unfold delC11_ent at h
  split at h
  · rename_i nl l n m n1 n2 x1 x2 x3 r c pi pr pc
    simp only [Option.some.injEq, Prod.mk.injEq] at h
    obtain ⟨hg, rfl⟩ := h
    exact delC11_fact nl l n m n1 n2 x1 x2 x3 r c pi pr pc hg
  · cases h
noncomputable def T_delC11 : Tbl := Tbl.cons 111 delC11_ent T_delC10
theorem T_delC11_ok : CallOk Tryd.prog gTab T_delC11 := cons_ok T_delC10_ok delC11_ok
noncomputable def T_PlacesOwn_1 : Tbl := Tbl.cons 26 PlacesOwn_ent T_delC11
theorem T_PlacesOwn_1_ok : CallOk Tryd.prog gTab T_PlacesOwn_1 := cons_ok T_delC11_ok PlacesOwn_ok
noncomputable def actO00F_s1 {R : Type} (q : Int) (n1 : Nat) (r : List Int) (n : Int) (m : List (Int × List Int)) (n2 : Nat) (c : List Int) (c0 : Int → (List (Int × List Int)) → Nat → Nat → Nat → Nat → List Int → List Int → Option R) (c1 : List Int → Int → (List (Int × List Int)) → Nat → Nat → Nat → Nat → List Int → List Int → Option R) : Option R :=
  bnd (below q n1) fun j1 =>
  bnd (r[(0 + j1)]?) fun e2 =>
  br (e2 == 1)
    (c0 n m 0 n1 0 n2 r c)
    (bnd (ix m q) fun e0 =>
    grd (okW e0.2 && rtS e0.1 e0.2 && decide (1 ≤ (plS e0.2).length)) <|
    grd (delOk c (plS e0.2) && decide (((plS e0.2).length) = (plS e0.2).length) && decide (n2 = c.length)) <|
    c1 (((keepC c (plS e0.2) ++ List.replicate ((plS e0.2).length - (keepC c (plS e0.2)).length) 0).drop 0).take ((keepC c (plS e0.2)).length)) n m 0 n1 0 n2 r c)
theorem actO00F_s1_eq (fuel : Nat)  (q : Int) (n1 : Nat) (r : List Int) (n : Int) (m : List (Int × List Int)) (n2 : Nat) (c : List Int) : callN Tryd.prog mode11 T_PlacesOwn_1 fuel 57 [.ptr 0 8 0 0, vI q] [⟨100, .agg [vI n, vR m, .sl 1 1 0 n1, .sl 2 1 0 n2, vN, vN, vN, vN], true⟩, ⟨3, vL r, true⟩, ⟨3, vL c, true⟩] = actO00F_s1 q n1 r n m n2 c (fun a3 a4 a5 a6 a7 a8 a9 a0 => some (vN, [some ⟨100, .agg [vI a3, vR a4, .sl 1 1 a5 a6, .sl 2 1 a7 a8, vN, vN, vN, vN], true⟩, bL 3 a9, bL 3 a0])) (fun a1 a2 a14 a15 a16 a17 a18 a19 a20 => some (vL a1, [some ⟨100, .agg [vI a2, vR a14, .sl 1 1 a15 a16, .sl 2 1 a17 a18, vN, vN, vN, vN], true⟩, bL 3 a19, bL 3 a20])) := by kernel_rfl
noncomputable def actO00F {R : Type} (fuel : Nat) (q n : Int) (m : List (Int × List Int)) (n1 n2 : Nat) (r c : List Int) (r0 : Int → (List (Int × List Int)) → Nat → Nat → Nat → Nat → List Int → List Int → Option R) (r1 : List Int → Int → (List (Int × List Int)) → Nat → Nat → Nat → Nat → List Int → List Int → Option R) : Option R :=
  (actO00F_s1 q n1 r n m n2 c (fun a3 a4 a5 a6 a7 a8 a9 a0 => r0 a3 a4 a5 a6 a7 a8 a9 a0) (fun a1 a2 a14 a15 a16 a17 a18 a19 a20 => r1 a1 a2 a14 a15 a16 a17 a18 a19 a20))
theorem actO00F_eq (fuel : Nat) (q n : Int) (m : List (Int × List Int)) (n1 n2 : Nat) (r c : List Int) : callN Tryd.prog mode11 T_PlacesOwn_1 fuel 57 [.ptr 0 8 0 0, .s (.int .i64 q)] [⟨100, .agg [.s (.int .i64 n), .lt (.pair (.int .i64) (.sl (.int .u64))) m, .sl 1 1 0 n1, .sl 2 1 0 n2, .s (.slice none 0 0), .s (.slice none 0 0), .s (.slice none 0 0), .s (.slice none 0 0)], true⟩, ⟨3, .li .i64 r, true⟩, ⟨3, .li .i64 c, true⟩] = actO00F fuel q n m n1 n2 r c (fun z0 z1 z2 z3 z4 z5 z6 z7 => some (.s (.slice none 0 0), [some ⟨100, .agg [.s (.int .i64 z0), .lt (.pair (.int .i64) (.sl (.int .u64))) z1, .sl 1 1 z2 z3, .sl 2 1 z4 z5, .s (.slice none 0 0), .s (.slice none 0 0), .s (.slice none 0 0), .s (.slice none 0 0)], true⟩, some ⟨3, .li .i64 z6, true⟩, some ⟨3, .li .i64 z7, true⟩])) (fun z0 z1 z2 z3 z4 z5 z6 z7 z8 => some (.li .i64 z0, [some ⟨100, .agg [.s (.int .i64 z1), .lt (.pair (.int .i64) (.sl (.int .u64))) z2, .sl 1 1 z3 z4, .sl 2 1 z5 z6, .s (.slice none 0 0), .s (.slice none 0 0), .s (.slice none 0 0), .s (.slice none 0 0)], true⟩, some ⟨3, .li .i64 z7, true⟩, some ⟨3, .li .i64 z8, true⟩])) := by
  unfold actO00F
  exact (actO00F_s1_eq fuel  q n1 r n m n2 c)
noncomputable def actO01F_s1 {R : Type} (q : Int) (n1 : Nat) (r : List Int) (n : Int) (m : List (Int × List Int)) (n2 x2 x3 : Nat) (c pr pc : List Int) (c0 : Int → (List (Int × List Int)) → Nat → Nat → Nat → Nat → Nat → Nat → Nat → Nat → List Int → List Int → List Int → List Int → Option R) (c1 : List Int → Int → (List (Int × List Int)) → Nat → Nat → Nat → Nat → Nat → Nat → Nat → Nat → List Int → List Int → List Int → List Int → Option R) : Option R :=
  bnd (below q n1) fun j1 =>
  bnd (r[(0 + j1)]?) fun e2 =>
  br (e2 == 1)
    (c0 n m 0 n1 0 n2 0 x2 0 x3 r c pr pc)
    (bnd (ix m q) fun e0 =>
    grd (okW e0.2 && rtS e0.1 e0.2 && decide (1 ≤ (plS e0.2).length)) <|
    grd (delOk c (plS e0.2) && decide (((plS e0.2).length) = (plS e0.2).length) && decide (n2 = c.length)) <|
    c1 (((keepC c (plS e0.2) ++ List.replicate ((plS e0.2).length - (keepC c (plS e0.2)).length) 0).drop 0).take ((keepC c (plS e0.2)).length)) n m 0 n1 0 n2 0 x2 0 x3 r c pr pc)
theorem actO01F_s1_eq (fuel : Nat)  (q : Int) (n1 : Nat) (r : List Int) (n : Int) (m : List (Int × List Int)) (n2 x2 x3 : Nat) (c pr pc : List Int) : callN Tryd.prog mode11 T_PlacesOwn_1 fuel 57 [.ptr 0 8 0 0, vI q] [⟨100, .agg [vI n, vR m, .sl 1 1 0 n1, .sl 2 1 0 n2, vN, .sl 3 1 0 x2, .sl 4 1 0 x3, vN], true⟩, ⟨3, vL r, true⟩, ⟨3, vL c, true⟩, ⟨3, vL pr, true⟩, ⟨3, vL pc, true⟩] = actO01F_s1 q n1 r n m n2 x2 x3 c pr pc (fun a3 a4 a5 a6 a7 a8 a9 a0 a1 a2 a13 a14 a15 a16 => some (vN, [some ⟨100, .agg [vI a3, vR a4, .sl 1 1 a5 a6, .sl 2 1 a7 a8, vN, .sl 3 1 a9 a0, .sl 4 1 a1 a2, vN], true⟩, bL 3 a13, bL 3 a14, bL 3 a15, bL 3 a16])) (fun a18 a19 a20 a21 a22 a23 a24 a25 a26 a27 a28 a29 a30 a31 a32 => some (vL a18, [some ⟨100, .agg [vI a19, vR a20, .sl 1 1 a21 a22, .sl 2 1 a23 a24, vN, .sl 3 1 a25 a26, .sl 4 1 a27 a28, vN], true⟩, bL 3 a29, bL 3 a30, bL 3 a31, bL 3 a32])) := by kernel_rfl
noncomputable def actO01F {R : Type} (fuel : Nat) (q n : Int) (m : List (Int × List Int)) (n1 n2 x2 x3 : Nat) (r c pr pc : List Int) (r0 : Int → (List (Int × List Int)) → Nat → Nat → Nat → Nat → Nat → Nat → Nat → Nat → List Int → List Int → List Int → List Int → Option R) (r1 : List Int → Int → (List (Int × List Int)) → Nat → Nat → Nat → Nat → Nat → Nat → Nat → Nat → List Int → List Int → List Int → List Int → Option R) : Option R :=
  (actO01F_s1 q n1 r n m n2 x2 x3 c pr pc (fun a3 a4 a5 a6 a7 a8 a9 a0 a1 a2 a13 a14 a15 a16 => r0 a3 a4 a5 a6 a7 a8 a9 a0 a1 a2 a13 a14 a15 a16) (fun a18 a19 a20 a21 a22 a23 a24 a25 a26 a27 a28 a29 a30 a31 a32 => r1 a18 a19 a20 a21 a22 a23 a24 a25 a26 a27 a28 a29 a30 a31 a32))
theorem actO01F_eq (fuel : Nat) (q n : Int) (m : List (Int × List Int)) (n1 n2 x2 x3 : Nat) (r c pr pc : List Int) : callN Tryd.prog mode11 T_PlacesOwn_1 fuel 57 [.ptr 0 8 0 0, .s (.int .i64 q)] [⟨100, .agg [.s (.int .i64 n), .lt (.pair (.int .i64) (.sl (.int .u64))) m, .sl 1 1 0 n1, .sl 2 1 0 n2, .s (.slice none 0 0), .sl 3 1 0 x2, .sl 4 1 0 x3, .s (.slice none 0 0)], true⟩, ⟨3, .li .i64 r, true⟩, ⟨3, .li .i64 c, true⟩, ⟨3, .li .i64 pr, true⟩, ⟨3, .li .i64 pc, true⟩] = actO01F fuel q n m n1 n2 x2 x3 r c pr pc (fun z0 z1 z2 z3 z4 z5 z6 z7 z8 z9 z10 z11 z12 z13 => some (.s (.slice none 0 0), [some ⟨100, .agg [.s (.int .i64 z0), .lt (.pair (.int .i64) (.sl (.int .u64))) z1, .sl 1 1 z2 z3, .sl 2 1 z4 z5, .s (.slice none 0 0), .sl 3 1 z6 z7, .sl 4 1 z8 z9, .s (.slice none 0 0)], true⟩, some ⟨3, .li .i64 z10, true⟩, some ⟨3, .li .i64 z11, true⟩, some ⟨3, .li .i64 z12, true⟩, some ⟨3, .li .i64 z13, true⟩])) (fun z0 z1 z2 z3 z4 z5 z6 z7 z8 z9 z10 z11 z12 z13 z14 => some (.li .i64 z0, [some ⟨100, .agg [.s (.int .i64 z1), .lt (.pair (.int .i64) (.sl (.int .u64))) z2, .sl 1 1 z3 z4, .sl 2 1 z5 z6, .s (.slice none 0 0), .sl 3 1 z7 z8, .sl 4 1 z9 z10, .s (.slice none 0 0)], true⟩, some ⟨3, .li .i64 z11, true⟩, some ⟨3, .li .i64 z12, true⟩, some ⟨3, .li .i64 z13, true⟩, some ⟨3, .li .i64 z14, true⟩])) := by
  unfold actO01F
  exact (actO01F_s1_eq fuel  q n1 r n m n2 x2 x3 c pr pc)
noncomputable def actO10F_s1 {R : Type} (q : Int) (n1 : Nat) (r : List Int) (n : Int) (m : List (Int × List Int)) (n2 x1 : Nat) (c pi : List Int) (c0 : Int → (List (Int × List Int)) → Nat → Nat → Nat → Nat → Nat → Nat → List Int → List Int → List Int → Option R) (c1 : List Int → Int → (List (Int × List Int)) → Nat → Nat → Nat → Nat → Nat → Nat → List Int → List Int → List Int → Option R) : Option R :=
  bnd (below q n1) fun j1 =>
  bnd (r[(0 + j1)]?) fun e2 =>
  br (e2 == 1)
    (c0 n m 0 n1 0 n2 0 x1 r c pi)
    (bnd (ix m q) fun e0 =>
    grd (okW e0.2 && rtS e0.1 e0.2 && decide (1 ≤ (plS e0.2).length)) <|
    grd (delOk c (plS e0.2) && decide (((plS e0.2).length) = (plS e0.2).length) && decide (n2 = c.length)) <|
    c1 (((keepC c (plS e0.2) ++ List.replicate ((plS e0.2).length - (keepC c (plS e0.2)).length) 0).drop 0).take ((keepC c (plS e0.2)).length)) n m 0 n1 0 n2 0 x1 r c pi)
theorem actO10F_s1_eq (fuel : Nat)  (q : Int) (n1 : Nat) (r : List Int) (n : Int) (m : List (Int × List Int)) (n2 x1 : Nat) (c pi : List Int) : callN Tryd.prog mode11 T_PlacesOwn_1 fuel 57 [.ptr 0 8 0 0, vI q] [⟨100, .agg [vI n, vR m, .sl 1 1 0 n1, .sl 2 1 0 n2, .sl 3 1 0 x1, vN, vN, vN], true⟩, ⟨3, vL r, true⟩, ⟨3, vL c, true⟩, ⟨3, vL pi, true⟩] = actO10F_s1 q n1 r n m n2 x1 c pi (fun a3 a4 a5 a6 a7 a8 a9 a0 a1 a2 a13 => some (vN, [some ⟨100, .agg [vI a3, vR a4, .sl 1 1 a5 a6, .sl 2 1 a7 a8, .sl 3 1 a9 a0, vN, vN, vN], true⟩, bL 3 a1, bL 3 a2, bL 3 a13])) (fun a15 a16 a17 a18 a19 a20 a21 a22 a23 a24 a25 a26 => some (vL a15, [some ⟨100, .agg [vI a16, vR a17, .sl 1 1 a18 a19, .sl 2 1 a20 a21, .sl 3 1 a22 a23, vN, vN, vN], true⟩, bL 3 a24, bL 3 a25, bL 3 a26])) := by kernel_rfl
noncomputable def actO10F {R : Type} (fuel : Nat) (q n : Int) (m : List (Int × List Int)) (n1 n2 x1 : Nat) (r c pi : List Int) (r0 : Int → (List (Int × List Int)) → Nat → Nat → Nat → Nat → Nat → Nat → List Int → List Int → List Int → Option R) (r1 : List Int → Int → (List (Int × List Int)) → Nat → Nat → Nat → Nat → Nat → Nat → List Int → List Int → List Int → Option R) : Option R :=
  (actO10F_s1 q n1 r n m n2 x1 c pi (fun a3 a4 a5 a6 a7 a8 a9 a0 a1 a2 a13 => r0 a3 a4 a5 a6 a7 a8 a9 a0 a1 a2 a13) (fun a15 a16 a17 a18 a19 a20 a21 a22 a23 a24 a25 a26 => r1 a15 a16 a17 a18 a19 a20 a21 a22 a23 a24 a25 a26))
theorem actO10F_eq (fuel : Nat) (q n : Int) (m : List (Int × List Int)) (n1 n2 x1 : Nat) (r c pi : List Int) : callN Tryd.prog mode11 T_PlacesOwn_1 fuel 57 [.ptr 0 8 0 0, .s (.int .i64 q)] [⟨100, .agg [.s (.int .i64 n), .lt (.pair (.int .i64) (.sl (.int .u64))) m, .sl 1 1 0 n1, .sl 2 1 0 n2, .sl 3 1 0 x1, .s (.slice none 0 0), .s (.slice none 0 0), .s (.slice none 0 0)], true⟩, ⟨3, .li .i64 r, true⟩, ⟨3, .li .i64 c, true⟩, ⟨3, .li .i64 pi, true⟩] = actO10F fuel q n m n1 n2 x1 r c pi (fun z0 z1 z2 z3 z4 z5 z6 z7 z8 z9 z10 => some (.s (.slice none 0 0), [some ⟨100, .agg [.s (.int .i64 z0), .lt (.pair (.int .i64) (.sl (.int .u64))) z1, .sl 1 1 z2 z3, .sl 2 1 z4 z5, .sl 3 1 z6 z7, .s (.slice none 0 0), .s (.slice none 0 0), .s (.slice none 0 0)], true⟩, some ⟨3, .li .i64 z8, true⟩, some ⟨3, .li .i64 z9, true⟩, some ⟨3, .li .i64 z10, true⟩])) (fun z0 z1 z2 z3 z4 z5 z6 z7 z8 z9 z10 z11 => some (.li .i64 z0, [some ⟨100, .agg [.s (.int .i64 z1), .lt (.pair (.int .i64) (.sl (.int .u64))) z2, .sl 1 1 z3 z4, .sl 2 1 z5 z6, .sl 3 1 z7 z8, .s (.slice none 0 0), .s (.slice none 0 0), .s (.slice none 0 0)], true⟩, some ⟨3, .li .i64 z9, true⟩, some ⟨3, .li .i64 z10, true⟩, some ⟨3, .li .i64 z11, true⟩])) := by
  unfold actO10F
  exact (actO10F_s1_eq fuel  q n1 r n m n2 x1 c pi)
noncomputable def actO11F_s1 {R : Type} (q : Int) (n1 : Nat) (r : List Int) (n : Int) (m : List (Int × List Int)) (n2 x1 x2 x3 : Nat) (c pi pr pc : List Int) (c0 : Int → (List (Int × List Int)) → Nat → Nat → Nat → Nat → Nat → Nat → Nat → Nat → Nat → Nat → List Int → List Int → List Int → List Int → List Int → Option R) (c1 : List Int → Int → (List (Int × List Int)) → Nat → Nat → Nat → Nat → Nat → Nat → Nat → Nat → Nat → Nat → List Int → List Int → List Int → List Int → List Int → Option R) : Option R :=
  bnd (below q n1) fun j1 =>
  bnd (r[(0 + j1)]?) fun e2 =>
  br (e2 == 1)
    (c0 n m 0 n1 0 n2 0 x1 0 x2 0 x3 r c pi pr pc)
    (bnd (ix m q) fun e0 =>
    grd (okW e0.2 && rtS e0.1 e0.2 && decide (1 ≤ (plS e0.2).length)) <|
    grd (delOk c (plS e0.2) && decide (((plS e0.2).length) = (plS e0.2).length) && decide (n2 = c.length)) <|
    c1 (((keepC c (plS e0.2) ++ List.replicate ((plS e0.2).length - (keepC c (plS e0.2)).length) 0).drop 0).take ((keepC c (plS e0.2)).length)) n m 0 n1 0 n2 0 x1 0 x2 0 x3 r c pi pr pc)
theorem actO11F_s1_eq (fuel : Nat)  (q : Int) (n1 : Nat) (r : List Int) (n : Int) (m : List (Int × List Int)) (n2 x1 x2 x3 : Nat) (c pi pr pc : List Int) : callN Tryd.prog mode11 T_PlacesOwn_1 fuel 57 [.ptr 0 8 0 0, vI q] [⟨100, .agg [vI n, vR m, .sl 1 1 0 n1, .sl 2 1 0 n2, .sl 3 1 0 x1, .sl 4 1 0 x2, .sl 5 1 0 x3, vN], true⟩, ⟨3, vL r, true⟩, ⟨3, vL c, true⟩, ⟨3, vL pi, true⟩, ⟨3, vL pr, true⟩, ⟨3, vL pc, true⟩] = actO11F_s1 q n1 r n m n2 x1 x2 x3 c pi pr pc (fun a3 a4 a5 a6 a7 a8 a9 a0 a1 a2 a13 a14 a15 a16 a17 a18 a19 => some (vN, [some ⟨100, .agg [vI a3, vR a4, .sl 1 1 a5 a6, .sl 2 1 a7 a8, .sl 3 1 a9 a0, .sl 4 1 a1 a2, .sl 5 1 a13 a14, vN], true⟩, bL 3 a15, bL 3 a16, bL 3 a17, bL 3 a18, bL 3 a19])) (fun a21 a22 a23 a24 a25 a26 a27 a28 a29 a30 a31 a32 a33 a34 a35 a36 a37 a38 => some (vL a21, [some ⟨100, .agg [vI a22, vR a23, .sl 1 1 a24 a25, .sl 2 1 a26 a27, .sl 3 1 a28 a29, .sl 4 1 a30 a31, .sl 5 1 a32 a33, vN], true⟩, bL 3 a34, bL 3 a35, bL 3 a36, bL 3 a37, bL 3 a38])) := by kernel_rfl
noncomputable def actO11F {R : Type} (fuel : Nat) (q n : Int) (m : List (Int × List Int)) (n1 n2 x1 x2 x3 : Nat) (r c pi pr pc : List Int) (r0 : Int → (List (Int × List Int)) → Nat → Nat → Nat → Nat → Nat → Nat → Nat → Nat → Nat → Nat → List Int → List Int → List Int → List Int → List Int → Option R) (r1 : List Int → Int → (List (Int × List Int)) → Nat → Nat → Nat → Nat → Nat → Nat → Nat → Nat → Nat → Nat → List Int → List Int → List Int → List Int → List Int → Option R) : Option R :=
  (actO11F_s1 q n1 r n m n2 x1 x2 x3 c pi pr pc (fun a3 a4 a5 a6 a7 a8 a9 a0 a1 a2 a13 a14 a15 a16 a17 a18 a19 => r0 a3 a4 a5 a6 a7 a8 a9 a0 a1 a2 a13 a14 a15 a16 a17 a18 a19) (fun a21 a22 a23 a24 a25 a26 a27 a28 a29 a30 a31 a32 a33 a34 a35 a36 a37 a38 => r1 a21 a22 a23 a24 a25 a26 a27 a28 a29 a30 a31 a32 a33 a34 a35 a36 a37 a38))
theorem actO11F_eq (fuel : Nat) (q n : Int) (m : List (Int × List Int)) (n1 n2 x1 x2 x3 : Nat) (r c pi pr pc : List Int) : callN Tryd.prog mode11 T_PlacesOwn_1 fuel 57 [.ptr 0 8 0 0, .s (.int .i64 q)] [⟨100, .agg [.s (.int .i64 n), .lt (.pair (.int .i64) (.sl (.int .u64))) m, .sl 1 1 0 n1, .sl 2 1 0 n2, .sl 3 1 0 x1, .sl 4 1 0 x2, .sl 5 1 0 x3, .s (.slice none 0 0)], true⟩, ⟨3, .li .i64 r, true⟩, ⟨3, .li .i64 c, true⟩, ⟨3, .li .i64 pi, true⟩, ⟨3, .li .i64 pr, true⟩, ⟨3, .li .i64 pc, true⟩] = actO11F fuel q n m n1 n2 x1 x2 x3 r c pi pr pc (fun z0 z1 z2 z3 z4 z5 z6 z7 z8 z9 z10 z11 z12 z13 z14 z15 z16 => some (.s (.slice none 0 0), [some ⟨100, .agg [.s (.int .i64 z0), .lt (.pair (.int .i64) (.sl (.int .u64))) z1, .sl 1 1 z2 z3, .sl 2 1 z4 z5, .sl 3 1 z6 z7, .sl 4 1 z8 z9, .sl 5 1 z10 z11, .s (.slice none 0 0)], true⟩, some ⟨3, .li .i64 z12, true⟩, some ⟨3, .li .i64 z13, true⟩, some ⟨3, .li .i64 z14, true⟩, some ⟨3, .li .i64 z15, true⟩, some ⟨3, .li .i64 z16, true⟩])) (fun z0 z1 z2 z3 z4 z5 z6 z7 z8 z9 z10 z11 z12 z13 z14 z15 z16 z17 => some (.li .i64 z0, [some ⟨100, .agg [.s (.int .i64 z1), .lt (.pair (.int .i64) (.sl (.int .u64))) z2, .sl 1 1 z3 z4, .sl 2 1 z5 z6, .sl 3 1 z7 z8, .sl 4 1 z9 z10, .sl 5 1 z11 z12, .s (.slice none 0 0)], true⟩, some ⟨3, .li .i64 z13, true⟩, some ⟨3, .li .i64 z14, true⟩, some ⟨3, .li .i64 z15, true⟩, some ⟨3, .li .i64 z16, true⟩, some ⟨3, .li .i64 z17, true⟩])) := by
  unfold actO11F
  exact (actO11F_s1_eq fuel  q n1 r n m n2 x1 x2 x3 c pi pr pc)
/-! downpour/bitrow.Places -/
noncomputable def PlacesNilF_s1 {R : Type} (ws : List Int) (n : Int) (c0 : Int → Option R) : Option R :=
  grd (okW ws) <|
  br (!(rtS n ws))
    (c0 1)
    (grd (okW ws && decide (ws.length ≤ 8) && decide ((plS ws).length = 0)) <|
    c0 0)
theorem PlacesNilF_s1_eq (fuel : Nat)  (ws : List Int) (n : Int) : callN Tryd.prog mode11 T_PlacesOwn_1 fuel 26 [.agg [vI n, vW ws]] [] = PlacesNilF_s1 ws n (fun a1 => some (.tup [vN, vI a1], [])) := by kernel_rfl
noncomputable def PlacesNilF {R : Type} (fuel : Nat) (n : Int) (ws : List Int) (r0 : Int → Option R) : Option R :=
  (PlacesNilF_s1 ws n (fun a1 => r0 a1))
theorem PlacesNilF_eq (fuel : Nat) (n : Int) (ws : List Int) : callN Tryd.prog mode11 T_PlacesOwn_1 fuel 26 [.agg [.s (.int .i64 n), .li .u64 ws]] [] = PlacesNilF fuel n ws (fun z0 => some (.tup [.s (.slice none 0 0), .s (.int .i64 z0)], [])) := by
  unfold PlacesNilF
  exact (PlacesNilF_s1_eq fuel  ws n)
theorem PlacesNil_fact (n : Int) (ws : List Int) (hg : (okW ws && rtS n ws && decide ((plS ws).length = 0)) = true) : Fact Tryd.prog gTab 26 [.agg [.s (.int .i64 n), .li .u64 ws]] [] (.tup [.s (.slice none 0 0), .s (.int .i64 0)], []) := by
  simp only [Bool.and_eq_true, decide_eq_true_eq] at hg
  obtain ⟨⟨hok, hr⟩, h0⟩ := hg
  have hl := (rtS_iff.1 hr).2.1
  have hl8 : ws.length ≤ 8 := by rw [hl]; exact nw_le (rtS_iff.1 hr).1.2
  refine callN_fact hN hM T_PlacesOwn_1_ok (n := 0) (mode := mode11) ?_
  rw [PlacesNilF_eq]
  unfold PlacesNilF PlacesNilF_s1
  rw [grd_of hok, br_if, if_neg (by simp [hr]), grd_of (by simp [hok, h0]; omega)]
noncomputable def PlacesNil_ent : List V → List Blk → Option (Bool × Out)
  | [.agg [.s (.int .i64 n), w0]], [] => (asSl (.int .u64) w0).bind fun ws => some ((okW ws && rtS n ws && decide ((plS ws).length = 0)), (.tup [.s (.slice none 0 0), .s (.int .i64 0)], []))
  | _, _ => none
theorem PlacesNil_ok : ∀ args bs out, PlacesNil_ent args bs = some (true, out) → Fact Tryd.prog gTab 26 args bs out := by
  intro args bs out h
  unfold PlacesNil_ent at h
  split at h
  · rename_i n w0
    obtain ⟨ws, h_ws, h⟩ := Option.bind_eq_some_iff.1 h
    simp only [Option.some.injEq, Prod.mk.injEq] at h
    obtain ⟨hg, rfl⟩ := h
    exact (PlacesNil_fact n ws hg).args (fun _ _ _ => fun _ h => RVs_two (fun _ h => RV_agg_two (fun _ h => RVs_two (fun _ h => h) (fun _ h => RVs_two (fun _ h => RV_li h_ws h) (fun _ h => h) h) h) h) (fun _ h => h) h)
  · cases h
noncomputable def T_PlacesNil : Tbl := Tbl.cons 26 PlacesNil_ent T_PlacesOwn_1
theorem T_PlacesNil_ok : CallOk Tryd.prog gTab T_PlacesNil := cons_ok T_PlacesOwn_1_ok PlacesNil_ok
/-! slices.IndexFunc[[]int,int] -/
noncomputable abbrev qb32 (n : Int) (m : List (Int × List Int)) (n1 : Nat) (n2 : Nat) (r : List Int) (c : List Int) : List (Nat × Option Blk) := [(0, some ⟨98, .agg [.ptr 1 8 0 0], true⟩), (1, some ⟨100, .agg [vI n, vR m, .sl 2 1 0 n1, .sl 3 1 0 n2, vN, vN, vN, vN], true⟩), (2, bL 3 r), (3, bL 3 c)]
noncomputable abbrev qb33 : List (Nat × V) := [(0, vN), (1, .fn (.func 112) [] [.ptr 0 1 0 0]), (4, vI 0), (7, vI 0), (8, vI 0)]
noncomputable abbrev qb34 (fuel : Nat) : Ctx Out := (fnX Tryd.prog mode11 T_PlacesNil fuel 19 4)
noncomputable def idxN00F_s2 {R : Type} (n : Int) (m : List (Int × List Int)) (n1 n2 : Nat) (r c : List Int) (c0 : Option R) : Option R :=
  c0
theorem idxN00F_s2_eq (fuel k : Nat) (K : Ex → St → Option Out) (n : Int) (m : List (Int × List Int)) (n1 n2 : Nat) (r c : List Int) : lpN (sub (bodyOf Tryd.prog 121) [1, 0, 1, 0, 0]) (qb34 fuel) 16 [0, 1, 4, 7, 8] (k + 1) ⟨qb33, (qb32 n m n1 n2 r c), 4, none⟩ K = idxN00F_s2 n m n1 n2 r c (K (.exit 0) ⟨[(4, vI 0)], (qb32 n m n1 n2 r c), 4, none⟩) := by kernel_rfl
noncomputable def idxN00F_l1 {R : Type} (fuel : Nat) (n : Int) (m : List (Int × List Int)) (n1 n2 : Nat) (r c : List Int) (k0 : Option R) : Nat → Option R
  | 0 => none
  | k + 1 =>
    (idxN00F_s2 n m n1 n2 r c (k0))
theorem idxN00F_l1_eq (fuel : Nat) (n : Int) (m : List (Int × List Int)) (n1 n2 : Nat) (r c : List Int) (K : Ex → St → Option Out) : ∀ (k : Nat) , lpN (sub (bodyOf Tryd.prog 121) [1, 0, 1, 0, 0]) (qb34 fuel) 16 [0, 1, 4, 7, 8] k ⟨qb33, (qb32 n m n1 n2 r c), 4, none⟩ K = idxN00F_l1 fuel n m n1 n2 r c (K (.exit 0) ⟨[(4, vI 0)], (qb32 n m n1 n2 r c), 4, none⟩) k 
  | 0 => rfl
  | k + 1 => by
    unfold idxN00F_l1
    exact (idxN00F_s2_eq fuel k K n m n1 n2 r c)
noncomputable def idxN00F_s3 {R : Type} (n : Int) (m : List (Int × List Int)) (n1 n2 : Nat) (r c : List Int) (c0 : Int → Nat → Int → (List (Int × List Int)) → Nat → Nat → Nat → Nat → List Int → List Int → Option R) : Option R :=
  c0 (-1) 0 n m 0 n1 0 n2 r c
theorem idxN00F_s3_eq (fuel : Nat)  (n : Int) (m : List (Int × List Int)) (n1 n2 : Nat) (r c : List Int) : (kont (qb34 fuel) (bodyOf Tryd.prog 121) [1, 0, 1, 0] 16 (endK Tryd.prog 2 4 121)) (.exit 0) ⟨[(4, vI 0)], (qb32 n m n1 n2 r c), 4, none⟩ = idxN00F_s3 n m n1 n2 r c (fun a1 a2 a3 a4 a5 a6 a7 a8 a9 a0 => some (vI a1, [some ⟨98, .agg [.ptr 1 8 a2 0], true⟩, some ⟨100, .agg [vI a3, vR a4, .sl 2 1 a5 a6, .sl 3 1 a7 a8, vN, vN, vN, vN], true⟩, bL 3 a9, bL 3 a0])) := by kernel_rfl
noncomputable def idxN00F_s1 {R : Type} (n : Int) (m : List (Int × List Int)) (n1 n2 : Nat) (r c : List Int) (c0 : Option R) : Option R :=
  c0
theorem idxN00F_s1_eq (fuel : Nat)  (n : Int) (m : List (Int × List Int)) (n1 n2 : Nat) (r c : List Int) : callN Tryd.prog mode11 T_PlacesNil fuel 121 [vN, .fn (.func 112) [] [.ptr 0 1 0 0]] [⟨98, .agg [.ptr 1 8 0 0], true⟩, ⟨100, .agg [vI n, vR m, .sl 2 1 0 n1, .sl 3 1 0 n2, vN, vN, vN, vN], true⟩, ⟨3, vL r, true⟩, ⟨3, vL c, true⟩] = idxN00F_s1 n m n1 n2 r c (lpN (sub (bodyOf Tryd.prog 121) [1, 0, 1, 0, 0]) (qb34 fuel) 16 [0, 1, 4, 7, 8] fuel ⟨qb33, (qb32 n m n1 n2 r c), 4, none⟩ (kont (qb34 fuel) (bodyOf Tryd.prog 121) [1, 0, 1, 0] 16 (endK Tryd.prog 2 4 121))) := by kernel_rfl
noncomputable def idxN00F {R : Type} (fuel : Nat) (n : Int) (m : List (Int × List Int)) (n1 n2 : Nat) (r c : List Int) (r0 : Int → Nat → Int → (List (Int × List Int)) → Nat → Nat → Nat → Nat → List Int → List Int → Option R) : Option R :=
  (idxN00F_s1 n m n1 n2 r c ((idxN00F_l1 fuel n m n1 n2 r c ((idxN00F_s3 n m n1 n2 r c (fun a1 a2 a3 a4 a5 a6 a7 a8 a9 a0 => r0 a1 a2 a3 a4 a5 a6 a7 a8 a9 a0))) fuel)))
theorem idxN00F_eq (fuel : Nat) (n : Int) (m : List (Int × List Int)) (n1 n2 : Nat) (r c : List Int) : callN Tryd.prog mode11 T_PlacesNil fuel 121 [.s (.slice none 0 0), .fn (.func 112) [] [.ptr 0 1 0 0]] [⟨98, .agg [.ptr 1 8 0 0], true⟩, ⟨100, .agg [.s (.int .i64 n), .lt (.pair (.int .i64) (.sl (.int .u64))) m, .sl 2 1 0 n1, .sl 3 1 0 n2, .s (.slice none 0 0), .s (.slice none 0 0), .s (.slice none 0 0), .s (.slice none 0 0)], true⟩, ⟨3, .li .i64 r, true⟩, ⟨3, .li .i64 c, true⟩] = idxN00F fuel n m n1 n2 r c (fun z0 z1 z2 z3 z4 z5 z6 z7 z8 z9 => some (.s (.int .i64 z0), [some ⟨98, .agg [.ptr 1 8 z1 0], true⟩, some ⟨100, .agg [.s (.int .i64 z2), .lt (.pair (.int .i64) (.sl (.int .u64))) z3, .sl 2 1 z4 z5, .sl 3 1 z6 z7, .s (.slice none 0 0), .s (.slice none 0 0), .s (.slice none 0 0), .s (.slice none 0 0)], true⟩, some ⟨3, .li .i64 z8, true⟩, some ⟨3, .li .i64 z9, true⟩])) := by
  unfold idxN00F
  exact (idxN00F_s1_eq fuel  n m n1 n2 r c).trans (congr (Eq.refl (idxN00F_s1 (R := Out) n m n1 n2 r c)) ((idxN00F_l1_eq fuel n m n1 n2 r c (kont (qb34 fuel) (bodyOf Tryd.prog 121) [1, 0, 1, 0] 16 (endK Tryd.prog 2 4 121)) fuel ).trans (congrFun (congr (Eq.refl (idxN00F_l1 (R := Out) fuel n m n1 n2 r c)) ((idxN00F_s3_eq fuel  n m n1 n2 r c))) fuel)))
theorem idxN00_fact (n : Int) (m : List (Int × List Int)) (n1 : Nat) (n2 : Nat) (r : List Int) (c : List Int) : Fact Tryd.prog gTab 121 [.s (.slice none 0 0), .fn (.func 112) [] [.ptr 0 1 0 0]] [⟨98, .agg [.ptr 1 8 0 0], true⟩, ⟨100, .agg [.s (.int .i64 n), .lt (.pair (.int .i64) (.sl (.int .u64))) m, .sl 2 1 0 n1, .sl 3 1 0 n2, .s (.slice none 0 0), .s (.slice none 0 0), .s (.slice none 0 0), .s (.slice none 0 0)], true⟩, ⟨3, .li .i64 r, true⟩, ⟨3, .li .i64 c, true⟩] (.s (.int .i64 (-1)), [some ⟨98, .agg [.ptr 1 8 0 0], true⟩, some ⟨100, .agg [.s (.int .i64 n), .lt (.pair (.int .i64) (.sl (.int .u64))) m, .sl 2 1 0 n1, .sl 3 1 0 n2, .s (.slice none 0 0), .s (.slice none 0 0), .s (.slice none 0 0), .s (.slice none 0 0)], true⟩, some ⟨3, .li .i64 r, true⟩, some ⟨3, .li .i64 c, true⟩]) := by
  refine callN_fact hN hM T_PlacesNil_ok (n := 1) (mode := mode11) ?_
  rw [idxN00F_eq]
  rfl
noncomputable def idxN00_ent : List V → List Blk → Option (Bool × Out)
  | [.s (.slice none 0 0), .fn (.func 112) [] [.ptr 0 1 0 0]], [⟨98, .agg [.ptr 1 8 0 0], true⟩, ⟨100, .agg [.s (.int .i64 n), .lt (.pair (.int .i64) (.sl (.int .u64))) m, .sl 2 1 0 n1, .sl 3 1 0 n2, .s (.slice none 0 0), .s (.slice none 0 0), .s (.slice none 0 0), .s (.slice none 0 0)], true⟩, ⟨3, .li .i64 r, true⟩, ⟨3, .li .i64 c, true⟩] => some (true, (.s (.int .i64 (-1)), [some ⟨98, .agg [.ptr 1 8 0 0], true⟩, some ⟨100, .agg [.s (.int .i64 n), .lt (.pair (.int .i64) (.sl (.int .u64))) m, .sl 2 1 0 n1, .sl 3 1 0 n2, .s (.slice none 0 0), .s (.slice none 0 0), .s (.slice none 0 0), .s (.slice none 0 0)], true⟩, some ⟨3, .li .i64 r, true⟩, some ⟨3, .li .i64 c, true⟩]))
  | _, _ => none
theorem idxN00_ok : ∀ args bs out, idxN00_ent args bs = some (true, out) → Fact Tryd.prog gTab 121 args bs out := by
  intro args bs out h
  unfold idxN00_ent at h
  split at h
  · rename_i n m n1 n2 r c
    simp only [Option.some.injEq, Prod.mk.injEq] at h
    obtain ⟨_, rfl⟩ := h
    exact idxN00_fact n m n1 n2 r c
  · cases h
noncomputable def T_idxN00 : Tbl := Tbl.cons 121 idxN00_ent T_PlacesNil
theorem T_idxN00_ok : CallOk Tryd.prog gTab T_idxN00 := cons_ok T_PlacesNil_ok idxN00_ok
/-! slices.DeleteFunc[[]int,int] -/
noncomputable def delN00F_s1 {R : Type} (n : Int) (m : List (Int × List Int)) (n1 n2 : Nat) (r c : List Int) (c0 : Nat → Int → (List (Int × List Int)) → Nat → Nat → Nat → Nat → List Int → List Int → Option R) : Option R :=
  c0 0 n m 0 n1 0 n2 r c
theorem delN00F_s1_eq (fuel : Nat)  (n : Int) (m : List (Int × List Int)) (n1 n2 : Nat) (r c : List Int) : callN Tryd.prog mode11 T_idxN00 fuel 111 [vN, .fn (.func 112) [] [.ptr 0 1 0 0]] [⟨98, .agg [.ptr 1 8 0 0], true⟩, ⟨100, .agg [vI n, vR m, .sl 2 1 0 n1, .sl 3 1 0 n2, vN, vN, vN, vN], true⟩, ⟨3, vL r, true⟩, ⟨3, vL c, true⟩] = delN00F_s1 n m n1 n2 r c (fun a1 a2 a3 a4 a5 a6 a7 a8 a9 => some (vN, [some ⟨98, .agg [.ptr 1 8 a1 0], true⟩, some ⟨100, .agg [vI a2, vR a3, .sl 2 1 a4 a5, .sl 3 1 a6 a7, vN, vN, vN, vN], true⟩, bL 3 a8, bL 3 a9])) := by kernel_rfl
noncomputable def delN00F {R : Type} (fuel : Nat) (n : Int) (m : List (Int × List Int)) (n1 n2 : Nat) (r c : List Int) (r0 : Nat → Int → (List (Int × List Int)) → Nat → Nat → Nat → Nat → List Int → List Int → Option R) : Option R :=
  (delN00F_s1 n m n1 n2 r c (fun a1 a2 a3 a4 a5 a6 a7 a8 a9 => r0 a1 a2 a3 a4 a5 a6 a7 a8 a9))
theorem delN00F_eq (fuel : Nat) (n : Int) (m : List (Int × List Int)) (n1 n2 : Nat) (r c : List Int) : callN Tryd.prog mode11 T_idxN00 fuel 111 [.s (.slice none 0 0), .fn (.func 112) [] [.ptr 0 1 0 0]] [⟨98, .agg [.ptr 1 8 0 0], true⟩, ⟨100, .agg [.s (.int .i64 n), .lt (.pair (.int .i64) (.sl (.int .u64))) m, .sl 2 1 0 n1, .sl 3 1 0 n2, .s (.slice none 0 0), .s (.slice none 0 0), .s (.slice none 0 0), .s (.slice none 0 0)], true⟩, ⟨3, .li .i64 r, true⟩, ⟨3, .li .i64 c, true⟩] = delN00F fuel n m n1 n2 r c (fun z0 z1 z2 z3 z4 z5 z6 z7 z8 => some (.s (.slice none 0 0), [some ⟨98, .agg [.ptr 1 8 z0 0], true⟩, some ⟨100, .agg [.s (.int .i64 z1), .lt (.pair (.int .i64) (.sl (.int .u64))) z2, .sl 2 1 z3 z4, .sl 3 1 z5 z6, .s (.slice none 0 0), .s (.slice none 0 0), .s (.slice none 0 0), .s (.slice none 0 0)], true⟩, some ⟨3, .li .i64 z7, true⟩, some ⟨3, .li .i64 z8, true⟩])) := by
  unfold delN00F
  exact (delN00F_s1_eq fuel  n m n1 n2 r c)
theorem delN00_fact (n : Int) (m : List (Int × List Int)) (n1 : Nat) (n2 : Nat) (r : List Int) (c : List Int) : Fact Tryd.prog gTab 111 [.s (.slice none 0 0), .fn (.func 112) [] [.ptr 0 1 0 0]] [⟨98, .agg [.ptr 1 8 0 0], true⟩, ⟨100, .agg [.s (.int .i64 n), .lt (.pair (.int .i64) (.sl (.int .u64))) m, .sl 2 1 0 n1, .sl 3 1 0 n2, .s (.slice none 0 0), .s (.slice none 0 0), .s (.slice none 0 0), .s (.slice none 0 0)], true⟩, ⟨3, .li .i64 r, true⟩, ⟨3, .li .i64 c, true⟩] (.s (.slice none 0 0), [some ⟨98, .agg [.ptr 1 8 0 0], true⟩, some ⟨100, .agg [.s (.int .i64 n), .lt (.pair (.int .i64) (.sl (.int .u64))) m, .sl 2 1 0 n1, .sl 3 1 0 n2, .s (.slice none 0 0), .s (.slice none 0 0), .s (.slice none 0 0), .s (.slice none 0 0)], true⟩, some ⟨3, .li .i64 r, true⟩, some ⟨3, .li .i64 c, true⟩]) := by
  refine callN_fact hN hM T_idxN00_ok (n := 1) (mode := mode11) ?_
  rw [delN00F_eq]
  rfl
noncomputable def delN00_ent : List V → List Blk → Option (Bool × Out)
  | [.s (.slice none 0 0), .fn (.func 112) [] [.ptr 0 1 0 0]], [⟨98, .agg [.ptr 1 8 0 0], true⟩, ⟨100, .agg [.s (.int .i64 n), .lt (.pair (.int .i64) (.sl (.int .u64))) m, .sl 2 1 0 n1, .sl 3 1 0 n2, .s (.slice none 0 0), .s (.slice none 0 0), .s (.slice none 0 0), .s (.slice none 0 0)], true⟩, ⟨3, .li .i64 r, true⟩, ⟨3, .li .i64 c, true⟩] => some (true, (.s (.slice none 0 0), [some ⟨98, .agg [.ptr 1 8 0 0], true⟩, some ⟨100, .agg [.s (.int .i64 n), .lt (.pair (.int .i64) (.sl (.int .u64))) m, .sl 2 1 0 n1, .sl 3 1 0 n2, .s (.slice none 0 0), .s (.slice none 0 0), .s (.slice none 0 0), .s (.slice none 0 0)], true⟩, some ⟨3, .li .i64 r, true⟩, some ⟨3, .li .i64 c, true⟩]))
  | _, _ => none
theorem delN00_ok : ∀ args bs out, delN00_ent args bs = some (true, out) → Fact Tryd.prog gTab 111 args bs out := by
  intro args bs out h
  unfold delN00_ent at h
  split at h
  · rename_i n m n1 n2 r c
    simp only [Option.some.injEq, Prod.mk.injEq] at h
    obtain ⟨_, rfl⟩ := h
    exact delN00_fact n m n1 n2 r c
  · cases h
noncomputable def T_delN00 : Tbl := Tbl.cons 111 delN00_ent T_idxN00
theorem T_delN00_ok : CallOk Tryd.prog gTab T_delN00 := cons_ok T_idxN00_ok delN00_ok
/-! slices.IndexFunc[[]int,int] -/
noncomputable abbrev qb35 (n : Int) (m : List (Int × List Int)) (n1 : Nat) (n2 : Nat) (x2 : Nat) (x3 : Nat) (r : List Int) (c : List Int) (pr : List Int) (pc : List Int) : List (Nat × Option Blk) := [(0, some ⟨98, .agg [.ptr 1 8 0 0], true⟩), (1, some ⟨100, .agg [vI n, vR m, .sl 2 1 0 n1, .sl 3 1 0 n2, vN, .sl 4 1 0 x2, .sl 5 1 0 x3, vN], true⟩), (2, bL 3 r), (3, bL 3 c), (4, bL 3 pr), (5, bL 3 pc)]
noncomputable abbrev qb36 : List (Nat × V) := [(0, vN), (1, .fn (.func 112) [] [.ptr 0 1 0 0]), (4, vI 0), (7, vI 0), (8, vI 0)]
noncomputable abbrev qb37 (fuel : Nat) : Ctx Out := (fnX Tryd.prog mode11 T_delN00 fuel 19 6)
noncomputable def idxN01F_s2 {R : Type} (n : Int) (m : List (Int × List Int)) (n1 n2 x2 x3 : Nat) (r c pr pc : List Int) (c0 : Option R) : Option R :=
  c0
theorem idxN01F_s2_eq (fuel k : Nat) (K : Ex → St → Option Out) (n : Int) (m : List (Int × List Int)) (n1 n2 x2 x3 : Nat) (r c pr pc : List Int) : lpN (sub (bodyOf Tryd.prog 121) [1, 0, 1, 0, 0]) (qb37 fuel) 16 [0, 1, 4, 7, 8] (k + 1) ⟨qb36, (qb35 n m n1 n2 x2 x3 r c pr pc), 6, none⟩ K = idxN01F_s2 n m n1 n2 x2 x3 r c pr pc (K (.exit 0) ⟨[(4, vI 0)], (qb35 n m n1 n2 x2 x3 r c pr pc), 6, none⟩) := by kernel_rfl
noncomputable def idxN01F_l1 {R : Type} (fuel : Nat) (n : Int) (m : List (Int × List Int)) (n1 n2 x2 x3 : Nat) (r c pr pc : List Int) (k0 : Option R) : Nat → Option R
  | 0 => none
  | k + 1 =>
    (idxN01F_s2 n m n1 n2 x2 x3 r c pr pc (k0))
theorem idxN01F_l1_eq (fuel : Nat) (n : Int) (m : List (Int × List Int)) (n1 n2 x2 x3 : Nat) (r c pr pc : List Int) (K : Ex → St → Option Out) : ∀ (k : Nat) , lpN (sub (bodyOf Tryd.prog 121) [1, 0, 1, 0, 0]) (qb37 fuel) 16 [0, 1, 4, 7, 8] k ⟨qb36, (qb35 n m n1 n2 x2 x3 r c pr pc), 6, none⟩ K = idxN01F_l1 fuel n m n1 n2 x2 x3 r c pr pc (K (.exit 0) ⟨[(4, vI 0)], (qb35 n m n1 n2 x2 x3 r c pr pc), 6, none⟩) k 
  | 0 => rfl
  | k + 1 => by
    unfold idxN01F_l1
    exact (idxN01F_s2_eq fuel k K n m n1 n2 x2 x3 r c pr pc)
noncomputable def idxN01F_s3 {R : Type} (n : Int) (m : List (Int × List Int)) (n1 n2 x2 x3 : Nat) (r c pr pc : List Int) (c0 : Int → Nat → Int → (List (Int × List Int)) → Nat → Nat → Nat → Nat → Nat → Nat → Nat → Nat → List Int → List Int → List Int → List Int → Option R) : Option R :=
  c0 (-1) 0 n m 0 n1 0 n2 0 x2 0 x3 r c pr pc
theorem idxN01F_s3_eq (fuel : Nat)  (n : Int) (m : List (Int × List Int)) (n1 n2 x2 x3 : Nat) (r c pr pc : List Int) : (kont (qb37 fuel) (bodyOf Tryd.prog 121) [1, 0, 1, 0] 16 (endK Tryd.prog 2 6 121)) (.exit 0) ⟨[(4, vI 0)], (qb35 n m n1 n2 x2 x3 r c pr pc), 6, none⟩ = idxN01F_s3 n m n1 n2 x2 x3 r c pr pc (fun a1 a2 a3 a4 a5 a6 a7 a8 a9 a0 a11 a12 a13 a14 a15 a16 => some (vI a1, [some ⟨98, .agg [.ptr 1 8 a2 0], true⟩, some ⟨100, .agg [vI a3, vR a4, .sl 2 1 a5 a6, .sl 3 1 a7 a8, vN, .sl 4 1 a9 a0, .sl 5 1 a11 a12, vN], true⟩, bL 3 a13, bL 3 a14, bL 3 a15, bL 3 a16])) := by kernel_rfl
noncomputable def idxN01F_s1 {R : Type} (n : Int) (m : List (Int × List Int)) (n1 n2 x2 x3 : Nat) (r c pr pc : List Int) (c0 : Option R) : Option R :=
  c0
theorem idxN01F_s1_eq (fuel : Nat)  (n : Int) (m : List (Int × List Int)) (n1 n2 x2 x3 : Nat) (r c pr pc : List Int) : callN Tryd.prog mode11 T_delN00 fuel 121 [vN, .fn (.func 112) [] [.ptr 0 1 0 0]] [⟨98, .agg [.ptr 1 8 0 0], true⟩, ⟨100, .agg [vI n, vR m, .sl 2 1 0 n1, .sl 3 1 0 n2, vN, .sl 4 1 0 x2, .sl 5 1 0 x3, vN], true⟩, ⟨3, vL r, true⟩, ⟨3, vL c, true⟩, ⟨3, vL pr, true⟩, ⟨3, vL pc, true⟩] = idxN01F_s1 n m n1 n2 x2 x3 r c pr pc (lpN (sub (bodyOf Tryd.prog 121) [1, 0, 1, 0, 0]) (qb37 fuel) 16 [0, 1, 4, 7, 8] fuel ⟨qb36, (qb35 n m n1 n2 x2 x3 r c pr pc), 6, none⟩ (kont (qb37 fuel) (bodyOf Tryd.prog 121) [1, 0, 1, 0] 16 (endK Tryd.prog 2 6 121))) := by kernel_rfl
noncomputable def idxN01F {R : Type} (fuel : Nat) (n : Int) (m : List (Int × List Int)) (n1 n2 x2 x3 : Nat) (r c pr pc : List Int) (r0 : Int → Nat → Int → (List (Int × List Int)) → Nat → Nat → Nat → Nat → Nat → Nat → Nat → Nat → List Int → List Int → List Int → List Int → Option R) : Option R :=
  (idxN01F_s1 n m n1 n2 x2 x3 r c pr pc ((idxN01F_l1 fuel n m n1 n2 x2 x3 r c pr pc ((idxN01F_s3 n m n1 n2 x2 x3 r c pr pc (fun a1 a2 a3 a4 a5 a6 a7 a8 a9 a0 a11 a12 a13 a14 a15 a16 => r0 a1 a2 a3 a4 a5 a6 a7 a8 a9 a0 a11 a12 a13 a14 a15 a16))) fuel)))
theorem idxN01F_eq (fuel : Nat) (n : Int) (m : List (Int × List Int)) (n1 n2 x2 x3 : Nat) (r c pr pc : List Int) : callN Tryd.prog mode11 T_delN00 fuel 121 [.s (.slice none 0 0), .fn (.func 112) [] [.ptr 0 1 0 0]] [⟨98, .agg [.ptr 1 8 0 0], true⟩, ⟨100, .agg [.s (.int .i64 n), .lt (.pair (.int .i64) (.sl (.int .u64))) m, .sl 2 1 0 n1, .sl 3 1 0 n2, .s (.slice none 0 0), .sl 4 1 0 x2, .sl 5 1 0 x3, .s (.slice none 0 0)], true⟩, ⟨3, .li .i64 r, true⟩, ⟨3, .li .i64 c, true⟩, ⟨3, .li .i64 pr, true⟩, ⟨3, .li .i64 pc, true⟩] = idxN01F fuel n m n1 n2 x2 x3 r c pr pc (fun z0 z1 z2 z3 z4 z5 z6 z7 z8 z9 z10 z11 z12 z13 z14 z15 => some (.s (.int .i64 z0), [some ⟨98, .agg [.ptr 1 8 z1 0], true⟩, some ⟨100, .agg [.s (.int .i64 z2), .lt (.pair (.int .i64) (.sl (.int .u64))) z3, .sl 2 1 z4 z5, .sl 3 1 z6 z7, .s (.slice none 0 0), .sl 4 1 z8 z9, .sl 5 1 z10 z11, .s (.slice none 0 0)], true⟩, some ⟨3, .li .i64 z12, true⟩, some ⟨3, .li .i64 z13, true⟩, some ⟨3, .li .i64 z14, true⟩, some ⟨3, .li .i64 z15, true⟩])) := by
  unfold idxN01F
  exact (idxN01F_s1_eq fuel  n m n1 n2 x2 x3 r c pr pc).trans (congr (Eq.refl (idxN01F_s1 (R := Out) n m n1 n2 x2 x3 r c pr pc)) ((idxN01F_l1_eq fuel n m n1 n2 x2 x3 r c pr pc (kont (qb37 fuel) (bodyOf Tryd.prog 121) [1, 0, 1, 0] 16 (endK Tryd.prog 2 6 121)) fuel ).trans (congrFun (congr (Eq.refl (idxN01F_l1 (R := Out) fuel n m n1 n2 x2 x3 r c pr pc)) ((idxN01F_s3_eq fuel  n m n1 n2 x2 x3 r c pr pc))) fuel)))
theorem idxN01_fact (n : Int) (m : List (Int × List Int)) (n1 : Nat) (n2 : Nat) (x2 : Nat) (x3 : Nat) (r : List Int) (c : List Int) (pr : List Int) (pc : List Int) : Fact Tryd.prog gTab 121 [.s (.slice none 0 0), .fn (.func 112) [] [.ptr 0 1 0 0]] [⟨98, .agg [.ptr 1 8 0 0], true⟩, ⟨100, .agg [.s (.int .i64 n), .lt (.pair (.int .i64) (.sl (.int .u64))) m, .sl 2 1 0 n1, .sl 3 1 0 n2, .s (.slice none 0 0), .sl 4 1 0 x2, .sl 5 1 0 x3, .s (.slice none 0 0)], true⟩, ⟨3, .li .i64 r, true⟩, ⟨3, .li .i64 c, true⟩, ⟨3, .li .i64 pr, true⟩, ⟨3, .li .i64 pc, true⟩] (.s (.int .i64 (-1)), [some ⟨98, .agg [.ptr 1 8 0 0], true⟩, some ⟨100, .agg [.s (.int .i64 n), .lt (.pair (.int .i64) (.sl (.int .u64))) m, .sl 2 1 0 n1, .sl 3 1 0 n2, .s (.slice none 0 0), .sl 4 1 0 x2, .sl 5 1 0 x3, .s (.slice none 0 0)], true⟩, some ⟨3, .li .i64 r, true⟩, some ⟨3, .li .i64 c, true⟩, some ⟨3, .li .i64 pr, true⟩, some ⟨3, .li .i64 pc, true⟩]) := by
  refine callN_fact hN hM T_delN00_ok (n := 1) (mode := mode11) ?_
  rw [idxN01F_eq]
  rfl
noncomputable def idxN01_ent : List V → List Blk → Option (Bool × Out)
  | [.s (.slice none 0 0), .fn (.func 112) [] [.ptr 0 1 0 0]], [⟨98, .agg [.ptr 1 8 0 0], true⟩, ⟨100, .agg [.s (.int .i64 n), .lt (.pair (.int .i64) (.sl (.int .u64))) m, .sl 2 1 0 n1, .sl 3 1 0 n2, .s (.slice none 0 0), .sl 4 1 0 x2, .sl 5 1 0 x3, .s (.slice none 0 0)], true⟩, ⟨3, .li .i64 r, true⟩, ⟨3, .li .i64 c, true⟩, ⟨3, .li .i64 pr, true⟩, ⟨3, .li .i64 pc, true⟩] => some (true, (.s (.int .i64 (-1)), [some ⟨98, .agg [.ptr 1 8 0 0], true⟩, some ⟨100, .agg [.s (.int .i64 n), .lt (.pair (.int .i64) (.sl (.int .u64))) m, .sl 2 1 0 n1, .sl 3 1 0 n2, .s (.slice none 0 0), .sl 4 1 0 x2, .sl 5 1 0 x3, .s (.slice none 0 0)], true⟩, some ⟨3, .li .i64 r, true⟩, some ⟨3, .li .i64 c, true⟩, some ⟨3, .li .i64 pr, true⟩, some ⟨3, .li .i64 pc, true⟩]))
  | _, _ => none
theorem idxN01_ok : ∀ args bs out, idxN01_ent args bs = some (true, out) → Fact Tryd.prog gTab 121 args bs out := by
  intro args bs out h
  unfold idxN01_ent at h
  split at h
  · rename_i n m n1 n2 x2 x3 r c pr pc
    simp only [Option.some.injEq, Prod.mk.injEq] at h
    obtain ⟨_, rfl⟩ := h
    exact idxN01_fact n m n1 n2 x2 x3 r c pr pc
  · cases h
noncomputable def T_idxN01 : Tbl := Tbl.cons 121 idxN01_ent T_delN00
theorem T_idxN01_ok : CallOk Tryd.prog gTab T_idxN01 := cons_ok T_delN00_ok idxN01_ok
/-! slices.DeleteFunc[[]int,int] -/
noncomputable def delN01F_s1 {R : Type} (n : Int) (m : List (Int × List Int)) (n1 n2 x2 x3 : Nat) (r c pr pc : List Int) (c0 : Nat → Int → (List (Int × List Int)) → Nat → Nat → Nat → Nat → Nat → Nat → Nat → Nat → List Int → List Int → List Int → List Int → Option R) : Option R :=
  c0 0 n m 0 n1 0 n2 0 x2 0 x3 r c pr pc
theorem delN01F_s1_eq (fuel : Nat)  (n : Int) (m : List (Int × List Int)) (n1 n2 x2 x3 : Nat) (r c pr pc : List Int) : callN Tryd.prog mode11 T_idxN01 fuel 111 [vN, .fn (.func 112) [] [.ptr 0 1 0 0]] [⟨98, .agg [.ptr 1 8 0 0], true⟩, ⟨100, .agg [vI n, vR m, .sl 2 1 0 n1, .sl 3 1 0 n2, vN, .sl 4 1 0 x2, .sl 5 1 0 x3, vN], true⟩, ⟨3, vL r, true⟩, ⟨3, vL c, true⟩, ⟨3, vL pr, true⟩, ⟨3, vL pc, true⟩] = delN01F_s1 n m n1 n2 x2 x3 r c pr pc (fun a1 a2 a3 a4 a5 a6 a7 a8 a9 a0 a11 a12 a13 a14 a15 => some (vN, [some ⟨98, .agg [.ptr 1 8 a1 0], true⟩, some ⟨100, .agg [vI a2, vR a3, .sl 2 1 a4 a5, .sl 3 1 a6 a7, vN, .sl 4 1 a8 a9, .sl 5 1 a0 a11, vN], true⟩, bL 3 a12, bL 3 a13, bL 3 a14, bL 3 a15])) := by kernel_rfl
noncomputable def delN01F {R : Type} (fuel : Nat) (n : Int) (m : List (Int × List Int)) (n1 n2 x2 x3 : Nat) (r c pr pc : List Int) (r0 : Nat → Int → (List (Int × List Int)) → Nat → Nat → Nat → Nat → Nat → Nat → Nat → Nat → List Int → List Int → List Int → List Int → Option R) : Option R :=
  (delN01F_s1 n m n1 n2 x2 x3 r c pr pc (fun a1 a2 a3 a4 a5 a6 a7 a8 a9 a0 a11 a12 a13 a14 a15 => r0 a1 a2 a3 a4 a5 a6 a7 a8 a9 a0 a11 a12 a13 a14 a15))
theorem delN01F_eq (fuel : Nat) (n : Int) (m : List (Int × List Int)) (n1 n2 x2 x3 : Nat) (r c pr pc : List Int) : callN Tryd.prog mode11 T_idxN01 fuel 111 [.s (.slice none 0 0), .fn (.func 112) [] [.ptr 0 1 0 0]] [⟨98, .agg [.ptr 1 8 0 0], true⟩, ⟨100, .agg [.s (.int .i64 n), .lt (.pair (.int .i64) (.sl (.int .u64))) m, .sl 2 1 0 n1, .sl 3 1 0 n2, .s (.slice none 0 0), .sl 4 1 0 x2, .sl 5 1 0 x3, .s (.slice none 0 0)], true⟩, ⟨3, .li .i64 r, true⟩, ⟨3, .li .i64 c, true⟩, ⟨3, .li .i64 pr, true⟩, ⟨3, .li .i64 pc, true⟩] = delN01F fuel n m n1 n2 x2 x3 r c pr pc (fun z0 z1 z2 z3 z4 z5 z6 z7 z8 z9 z10 z11 z12 z13 z14 => some (.s (.slice none 0 0), [some ⟨98, .agg [.ptr 1 8 z0 0], true⟩, some ⟨100, .agg [.s (.int .i64 z1), .lt (.pair (.int .i64) (.sl (.int .u64))) z2, .sl 2 1 z3 z4, .sl 3 1 z5 z6, .s (.slice none 0 0), .sl 4 1 z7 z8, .sl 5 1 z9 z10, .s (.slice none 0 0)], true⟩, some ⟨3, .li .i64 z11, true⟩, some ⟨3, .li .i64 z12, true⟩, some ⟨3, .li .i64 z13, true⟩, some ⟨3, .li .i64 z14, true⟩])) := by
  unfold delN01F
  exact (delN01F_s1_eq fuel  n m n1 n2 x2 x3 r c pr pc)
theorem delN01_fact (n : Int) (m : List (Int × List Int)) (n1 : Nat) (n2 : Nat) (x2 : Nat) (x3 : Nat) (r : List Int) (c : List Int) (pr : List Int) (pc : List Int) : Fact Tryd.prog gTab 111 [.s (.slice none 0 0), .fn (.func 112) [] [.ptr 0 1 0 0]] [⟨98, .agg [.ptr 1 8 0 0], true⟩, ⟨100, .agg [.s (.int .i64 n), .lt (.pair (.int .i64) (.sl (.int .u64))) m, .sl 2 1 0 n1, .sl 3 1 0 n2, .s (.slice none 0 0), .sl 4 1 0 x2, .sl 5 1 0 x3, .s (.slice none 0 0)], true⟩, ⟨3, .li .i64 r, true⟩, ⟨3, .li .i64 c, true⟩, ⟨3, .li .i64 pr, true⟩, ⟨3, .li .i64 pc, true⟩] (.s (.slice none 0 0), [some ⟨98, .agg [.ptr 1 8 0 0], true⟩, some ⟨100, .agg [.s (.int .i64 n), .lt (.pair (.int .i64) (.sl (.int .u64))) m, .sl 2 1 0 n1, .sl 3 1 0 n2, .s (.slice none 0 0), .sl 4 1 0 x2, .sl 5 1 0 x3, .s (.slice none 0 0)], true⟩, some ⟨3, .li .i64 r, true⟩, some ⟨3, .li .i64 c, true⟩, some ⟨3, .li .i64 pr, true⟩, some ⟨3, .li .i64 pc, true⟩]) := by
  refine callN_fact hN hM T_idxN01_ok (n := 1) (mode := mode11) ?_
  rw [delN01F_eq]
  rfl
noncomputable def delN01_ent : List V → List Blk → Option (Bool × Out)
  | [.s (.slice none 0 0), .fn (.func 112) [] [.ptr 0 1 0 0]], [⟨98, .agg [.ptr 1 8 0 0], true⟩, ⟨100, .agg [.s (.int .i64 n), .lt (.pair (.int .i64) (.sl (.int .u64))) m, .sl 2 1 0 n1, .sl 3 1 0 n2, .s (.slice none 0 0), .sl 4 1 0 x2, .sl 5 1 0 x3, .s (.slice none 0 0)], true⟩, ⟨3, .li .i64 r, true⟩, ⟨3, .li .i64 c, true⟩, ⟨3, .li .i64 pr, true⟩, ⟨3, .li .i64 pc, true⟩] => some (true, (.s (.slice none 0 0), [some ⟨98, .agg [.ptr 1 8 0 0], true⟩, some ⟨100, .agg [.s (.int .i64 n), .lt (.pair (.int .i64) (.sl (.int .u64))) m, .sl 2 1 0 n1, .sl 3 1 0 n2, .s (.slice none 0 0), .sl 4 1 0 x2, .sl 5 1 0 x3, .s (.slice none 0 0)], true⟩, some ⟨3, .li .i64 r, true⟩, some ⟨3, .li .i64 c, true⟩, some ⟨3, .li .i64 pr, true⟩, some ⟨3, .li .i64 pc, true⟩]))
  | _, _ => none
theorem delN01_ok : ∀ args bs out, delN01_ent args bs = some (true, out) → Fact Tryd.prog gTab 111 args bs out := by
  intro args bs out h
  unfold delN01_ent at h
  split at h
  · rename_i n m n1 n2 x2 x3 r c pr pc
    simp only [Option.some.injEq, Prod.mk.injEq] at h
    obtain ⟨_, rfl⟩ := h
    exact delN01_fact n m n1 n2 x2 x3 r c pr pc
  · cases h
noncomputable def T_delN01 : Tbl := Tbl.cons 111 delN01_ent T_idxN01
theorem T_delN01_ok : CallOk Tryd.prog gTab T_delN01 := cons_ok T_idxN01_ok delN01_ok
/-! slices.IndexFunc[[]int,int] -/
noncomputable abbrev qb38 (n : Int) (m : List (Int × List Int)) (n1 : Nat) (n2 : Nat) (x1 : Nat) (r : List Int) (c : List Int) (pi : List Int) : List (Nat × Option Blk) := [(0, some ⟨98, .agg [.ptr 1 8 0 0], true⟩), (1, some ⟨100, .agg [vI n, vR m, .sl 2 1 0 n1, .sl 3 1 0 n2, .sl 4 1 0 x1, vN, vN, vN], true⟩), (2, bL 3 r), (3, bL 3 c), (4, bL 3 pi)]
noncomputable abbrev qb39 : List (Nat × V) := [(0, vN), (1, .fn (.func 112) [] [.ptr 0 1 0 0]), (4, vI 0), (7, vI 0), (8, vI 0)]
noncomputable abbrev qb40 (fuel : Nat) : Ctx Out := (fnX Tryd.prog mode11 T_delN01 fuel 19 5)
noncomputable def idxN10F_s2 {R : Type} (n : Int) (m : List (Int × List Int)) (n1 n2 x1 : Nat) (r c pi : List Int) (c0 : Option R) : Option R :=
  c0
theorem idxN10F_s2_eq (fuel k : Nat) (K : Ex → St → Option Out) (n : Int) (m : List (Int × List Int)) (n1 n2 x1 : Nat) (r c pi : List Int) : lpN (sub (bodyOf Tryd.prog 121) [1, 0, 1, 0, 0]) (qb40 fuel) 16 [0, 1, 4, 7, 8] (k + 1) ⟨qb39, (qb38 n m n1 n2 x1 r c pi), 5, none⟩ K = idxN10F_s2 n m n1 n2 x1 r c pi (K (.exit 0) ⟨[(4, vI 0)], (qb38 n m n1 n2 x1 r c pi), 5, none⟩) := by kernel_rfl
noncomputable def idxN10F_l1 {R : Type} (fuel : Nat) (n : Int) (m : List (Int × List Int)) (n1 n2 x1 : Nat) (r c pi : List Int) (k0 : Option R) : Nat → Option R
  | 0 => none
  | k + 1 =>
    (idxN10F_s2 n m n1 n2 x1 r c pi (k0))
theorem idxN10F_l1_eq (fuel : Nat) (n : Int) (m : List (Int × List Int)) (n1 n2 x1 : Nat) (r c pi : List Int) (K : Ex → St → Option Out) : ∀ (k : Nat) , lpN (sub (bodyOf Tryd.prog 121) [1, 0, 1, 0, 0]) (qb40 fuel) 16 [0, 1, 4, 7, 8] k ⟨qb39, (qb38 n m n1 n2 x1 r c pi), 5, none⟩ K = idxN10F_l1 fuel n m n1 n2 x1 r c pi (K (.exit 0) ⟨[(4, vI 0)], (qb38 n m n1 n2 x1 r c pi), 5, none⟩) k 
  | 0 => rfl
  | k + 1 => by
    unfold idxN10F_l1
    exact (idxN10F_s2_eq fuel k K n m n1 n2 x1 r c pi)
noncomputable def idxN10F_s3 {R : Type} (n : Int) (m : List (Int × List Int)) (n1 n2 x1 : Nat) (r c pi : List Int) (c0 : Int → Nat → Int → (List (Int × List Int)) → Nat → Nat → Nat → Nat → Nat → Nat → List Int → List Int → List Int → Option R) : Option R :=
  c0 (-1) 0 n m 0 n1 0 n2 0 x1 r c pi
theorem idxN10F_s3_eq (fuel : Nat)  (n : Int) (m : List (Int × List Int)) (n1 n2 x1 : Nat) (r c pi : List Int) : (kont (qb40 fuel) (bodyOf Tryd.prog 121) [1, 0, 1, 0] 16 (endK Tryd.prog 2 5 121)) (.exit 0) ⟨[(4, vI 0)], (qb38 n m n1 n2 x1 r c pi), 5, none⟩ = idxN10F_s3 n m n1 n2 x1 r c pi (fun a1 a2 a3 a4 a5 a6 a7 a8 a9 a0 a11 a12 a13 => some (vI a1, [some ⟨98, .agg [.ptr 1 8 a2 0], true⟩, some ⟨100, .agg [vI a3, vR a4, .sl 2 1 a5 a6, .sl 3 1 a7 a8, .sl 4 1 a9 a0, vN, vN, vN], true⟩, bL 3 a11, bL 3 a12, bL 3 a13])) := by kernel_rfl
noncomputable def idxN10F_s1 {R : Type} (n : Int) (m : List (Int × List Int)) (n1 n2 x1 : Nat) (r c pi : List Int) (c0 : Option R) : Option R :=
  c0
theorem idxN10F_s1_eq (fuel : Nat)  (n : Int) (m : List (Int × List Int)) (n1 n2 x1 : Nat) (r c pi : List Int) : callN Tryd.prog mode11 T_delN01 fuel 121 [vN, .fn (.func 112) [] [.ptr 0 1 0 0]] [⟨98, .agg [.ptr 1 8 0 0], true⟩, ⟨100, .agg [vI n, vR m, .sl 2 1 0 n1, .sl 3 1 0 n2, .sl 4 1 0 x1, vN, vN, vN], true⟩, ⟨3, vL r, true⟩, ⟨3, vL c, true⟩, ⟨3, vL pi, true⟩] = idxN10F_s1 n m n1 n2 x1 r c pi (lpN (sub (bodyOf Tryd.prog 121) [1, 0, 1, 0, 0]) (qb40 fuel) 16 [0, 1, 4, 7, 8] fuel ⟨qb39, (qb38 n m n1 n2 x1 r c pi), 5, none⟩ (kont (qb40 fuel) (bodyOf Tryd.prog 121) [1, 0, 1, 0] 16 (endK Tryd.prog 2 5 121))) := by kernel_rfl
noncomputable def idxN10F {R : Type} (fuel : Nat) (n : Int) (m : List (Int × List Int)) (n1 n2 x1 : Nat) (r c pi : List Int) (r0 : Int → Nat → Int → (List (Int × List Int)) → Nat → Nat → Nat → Nat → Nat → Nat → List Int → List Int → List Int → Option R) : Option R :=
  (idxN10F_s1 n m n1 n2 x1 r c pi ((idxN10F_l1 fuel n m n1 n2 x1 r c pi ((idxN10F_s3 n m n1 n2 x1 r c pi (fun a1 a2 a3 a4 a5 a6 a7 a8 a9 a0 a11 a12 a13 => r0 a1 a2 a3 a4 a5 a6 a7 a8 a9 a0 a11 a12 a13))) fuel)))
theorem idxN10F_eq (fuel : Nat) (n : Int) (m : List (Int × List Int)) (n1 n2 x1 : Nat) (r c pi : List Int) : callN Tryd.prog mode11 T_delN01 fuel 121 [.s (.slice none 0 0), .fn (.func 112) [] [.ptr 0 1 0 0]] [⟨98, .agg [.ptr 1 8 0 0], true⟩, ⟨100, .agg [.s (.int .i64 n), .lt (.pair (.int .i64) (.sl (.int .u64))) m, .sl 2 1 0 n1, .sl 3 1 0 n2, .sl 4 1 0 x1, .s (.slice none 0 0), .s (.slice none 0 0), .s (.slice none 0 0)], true⟩, ⟨3, .li .i64 r, true⟩, ⟨3, .li .i64 c, true⟩, ⟨3, .li .i64 pi, true⟩] = idxN10F fuel n m n1 n2 x1 r c pi (fun z0 z1 z2 z3 z4 z5 z6 z7 z8 z9 z10 z11 z12 => some (.s (.int .i64 z0), [some ⟨98, .agg [.ptr 1 8 z1 0], true⟩, some ⟨100, .agg [.s (.int .i64 z2), .lt (.pair (.int .i64) (.sl (.int .u64))) z3, .sl 2 1 z4 z5, .sl 3 1 z6 z7, .sl 4 1 z8 z9, .s (.slice none 0 0), .s (.slice none 0 0), .s (.slice none 0 0)], true⟩, some ⟨3, .li .i64 z10, true⟩, some ⟨3, .li .i64 z11, true⟩, some ⟨3, .li .i64 z12, true⟩])) := by
  unfold idxN10F
  exact (idxN10F_s1_eq fuel  n m n1 n2 x1 r c pi).trans (congr (Eq.refl (idxN10F_s1 (R := Out) n m n1 n2 x1 r c pi)) ((idxN10F_l1_eq fuel n m n1 n2 x1 r c pi (kont (qb40 fuel) (bodyOf Tryd.prog 121) [1, 0, 1, 0] 16 (endK Tryd.prog 2 5 121)) fuel ).trans (congrFun (congr (Eq.refl (idxN10F_l1 (R := Out) fuel n m n1 n2 x1 r c pi)) ((idxN10F_s3_eq fuel  n m n1 n2 x1 r c pi))) fuel)))
theorem idxN10_fact (n : Int) (m : List (Int × List Int)) (n1 : Nat) (n2 : Nat) (x1 : Nat) (r : List Int) (c : List Int) (pi : List Int) : Fact Tryd.prog gTab 121 [.s (.slice none 0 0), .fn (.func 112) [] [.ptr 0 1 0 0]] [⟨98, .agg [.ptr 1 8 0 0], true⟩, ⟨100, .agg [.s (.int .i64 n), .lt (.pair (.int .i64) (.sl (.int .u64))) m, .sl 2 1 0 n1, .sl 3 1 0 n2, .sl 4 1 0 x1, .s (.slice none 0 0), .s (.slice none 0 0), .s (.slice none 0 0)], true⟩, ⟨3, .li .i64 r, true⟩, ⟨3, .li .i64 c, true⟩, ⟨3, .li .i64 pi, true⟩] (.s (.int .i64 (-1)), [some ⟨98, .agg [.ptr 1 8 0 0], true⟩, some ⟨100, .agg [.s (.int .i64 n), .lt (.pair (.int .i64) (.sl (.int .u64))) m, .sl 2 1 0 n1, .sl 3 1 0 n2, .sl 4 1 0 x1, .s (.slice none 0 0), .s (.slice none 0 0), .s (.slice none 0 0)], true⟩, some ⟨3, .li .i64 r, true⟩, some ⟨3, .li .i64 c, true⟩, some ⟨3, .li .i64 pi, true⟩]) := by
  refine callN_fact hN hM T_delN01_ok (n := 1) (mode := mode11) ?_
  rw [idxN10F_eq]
  rfl
noncomputable def idxN10_ent : List V → List Blk → Option (Bool × Out)
  | [.s (.slice none 0 0), .fn (.func 112) [] [.ptr 0 1 0 0]], [⟨98, .agg [.ptr 1 8 0 0], true⟩, ⟨100, .agg [.s (.int .i64 n), .lt (.pair (.int .i64) (.sl (.int .u64))) m, .sl 2 1 0 n1, .sl 3 1 0 n2, .sl 4 1 0 x1, .s (.slice none 0 0), .s (.slice none 0 0), .s (.slice none 0 0)], true⟩, ⟨3, .li .i64 r, true⟩, ⟨3, .li .i64 c, true⟩, ⟨3, .li .i64 pi, true⟩] => some (true, (.s (.int .i64 (-1)), [some ⟨98, .agg [.ptr 1 8 0 0], true⟩, some ⟨100, .agg [.s (.int .i64 n), .lt (.pair (.int .i64) (.sl (.int .u64))) m, .sl 2 1 0 n1, .sl 3 1 0 n2, .sl 4 1 0 x1, .s (.slice none 0 0), .s (.slice none 0 0), .s (.slice none 0 0)], true⟩, some ⟨3, .li .i64 r, true⟩, some ⟨3, .li .i64 c, true⟩, some ⟨3, .li .i64 pi, true⟩]))
  | _, _ => none
theorem idxN10_ok : ∀ args bs out, idxN10_ent args bs = some (true, out) → Fact Tryd.prog gTab 121 args bs out := by
  intro args bs out h
  unfold idxN10_ent at h
  split at h
  · rename_i n m n1 n2 x1 r c pi
    simp only [Option.some.injEq, Prod.mk.injEq] at h
    obtain ⟨_, rfl⟩ := h
    exact idxN10_fact n m n1 n2 x1 r c pi
  · cases h
noncomputable def T_idxN10 : Tbl := Tbl.cons 121 idxN10_ent T_delN01
theorem T_idxN10_ok : CallOk Tryd.prog gTab T_idxN10 := cons_ok T_delN01_ok idxN10_ok
/-! slices.DeleteFunc[[]int,int] -/
noncomputable def delN10F_s1 {R : Type} (n : Int) (m : List (Int × List Int)) (n1 n2 x1 : Nat) (r c pi : List Int) (c0 : Nat → Int → (List (Int × List Int)) → Nat → Nat → Nat → Nat → Nat → Nat → List Int → List Int → List Int → Option R) : Option R :=
  c0 0 n m 0 n1 0 n2 0 x1 r c pi
theorem delN10F_s1_eq (fuel : Nat)  (n : Int) (m : List (Int × List Int)) (n1 n2 x1 : Nat) (r c pi : List Int) : callN Tryd.prog mode11 T_idxN10 fuel 111 [vN, .fn (.func 112) [] [.ptr 0 1 0 0]] [⟨98, .agg [.ptr 1 8 0 0], true⟩, ⟨100, .agg [vI n, vR m, .sl 2 1 0 n1, .sl 3 1 0 n2, .sl 4 1 0 x1, vN, vN, vN], true⟩, ⟨3, vL r, true⟩, ⟨3, vL c, true⟩, ⟨3, vL pi, true⟩] = delN10F_s1 n m n1 n2 x1 r c pi (fun a1 a2 a3 a4 a5 a6 a7 a8 a9 a0 a11 a12 => some (vN, [some ⟨98, .agg [.ptr 1 8 a1 0], true⟩, some ⟨100, .agg [vI a2, vR a3, .sl 2 1 a4 a5, .sl 3 1 a6 a7, .sl 4 1 a8 a9, vN, vN, vN], true⟩, bL 3 a0, bL 3 a11, bL 3 a12])) := by kernel_rfl
noncomputable def delN10F {R : Type} (fuel : Nat) (n : Int) (m : List (Int × List Int)) (n1 n2 x1 : Nat) (r c pi : List Int) (r0 : Nat → Int → (List (Int × List Int)) → Nat → Nat → Nat → Nat → Nat → Nat → List Int → List Int → List Int → Option R) : Option R :=
  (delN10F_s1 n m n1 n2 x1 r c pi (fun a1 a2 a3 a4 a5 a6 a7 a8 a9 a0 a11 a12 => r0 a1 a2 a3 a4 a5 a6 a7 a8 a9 a0 a11 a12))
theorem delN10F_eq (fuel : Nat) (n : Int) (m : List (Int × List Int)) (n1 n2 x1 : Nat) (r c pi : List Int) : callN Tryd.prog mode11 T_idxN10 fuel 111 [.s (.slice none 0 0), .fn (.func 112) [] [.ptr 0 1 0 0]] [⟨98, .agg [.ptr 1 8 0 0], true⟩, ⟨100, .agg [.s (.int .i64 n), .lt (.pair (.int .i64) (.sl (.int .u64))) m, .sl 2 1 0 n1, .sl 3 1 0 n2, .sl 4 1 0 x1, .s (.slice none 0 0), .s (.slice none 0 0), .s (.slice none 0 0)], true⟩, ⟨3, .li .i64 r, true⟩, ⟨3, .li .i64 c, true⟩, ⟨3, .li .i64 pi, true⟩] = delN10F fuel n m n1 n2 x1 r c pi (fun z0 z1 z2 z3 z4 z5 z6 z7 z8 z9 z10 z11 => some (.s (.slice none 0 0), [some ⟨98, .agg [.ptr 1 8 z0 0], true⟩, some ⟨100, .agg [.s (.int .i64 z1), .lt (.pair (.int .i64) (.sl (.int .u64))) z2, .sl 2 1 z3 z4, .sl 3 1 z5 z6, .sl 4 1 z7 z8, .s (.slice none 0 0), .s (.slice none 0 0), .s (.slice none 0 0)], true⟩, some ⟨3, .li .i64 z9, true⟩, some ⟨3, .li .i64 z10, true⟩, some ⟨3, .li .i64 z11, true⟩])) := by
  unfold delN10F
  exact (delN10F_s1_eq fuel  n m n1 n2 x1 r c pi)
theorem delN10_fact (n : Int) (m : List (Int × List Int)) (n1 : Nat) (n2 : Nat) (x1 : Nat) (r : List Int) (c : List Int) (pi : List Int) : Fact Tryd.prog gTab 111 [.s (.slice none 0 0), .fn (.func 112) [] [.ptr 0 1 0 0]] [⟨98, .agg [.ptr 1 8 0 0], true⟩, ⟨100, .agg [.s (.int .i64 n), .lt (.pair (.int .i64) (.sl (.int .u64))) m, .sl 2 1 0 n1, .sl 3 1 0 n2, .sl 4 1 0 x1, .s (.slice none 0 0), .s (.slice none 0 0), .s (.slice none 0 0)], true⟩, ⟨3, .li .i64 r, true⟩, ⟨3, .li .i64 c, true⟩, ⟨3, .li .i64 pi, true⟩] (.s (.slice none 0 0), [some ⟨98, .agg [.ptr 1 8 0 0], true⟩, some ⟨100, .agg [.s (.int .i64 n), .lt (.pair (.int .i64) (.sl (.int .u64))) m, .sl 2 1 0 n1, .sl 3 1 0 n2, .sl 4 1 0 x1, .s (.slice none 0 0), .s (.slice none 0 0), .s (.slice none 0 0)], true⟩, some ⟨3, .li .i64 r, true⟩, some ⟨3, .li .i64 c, true⟩, some ⟨3, .li .i64 pi, true⟩]) := by
  refine callN_fact hN hM T_idxN10_ok (n := 1) (mode := mode11) ?_
  rw [delN10F_eq]
  rfl
noncomputable def delN10_ent : List V → List Blk → Option (Bool × Out)
  | [.s (.slice none 0 0), .fn (.func 112) [] [.ptr 0 1 0 0]], [⟨98, .agg [.ptr 1 8 0 0], true⟩, ⟨100, .agg [.s (.int .i64 n), .lt (.pair (.int .i64) (.sl (.int .u64))) m, .sl 2 1 0 n1, .sl 3 1 0 n2, .sl 4 1 0 x1, .s (.slice none 0 0), .s (.slice none 0 0), .s (.slice none 0 0)], true⟩, ⟨3, .li .i64 r, true⟩, ⟨3, .li .i64 c, true⟩, ⟨3, .li .i64 pi, true⟩] => some (true, (.s (.slice none 0 0), [some ⟨98, .agg [.ptr 1 8 0 0], true⟩, some ⟨100, .agg [.s (.int .i64 n), .lt (.pair (.int .i64) (.sl (.int .u64))) m, .sl 2 1 0 n1, .sl 3 1 0 n2, .sl 4 1 0 x1, .s (.slice none 0 0), .s (.slice none 0 0), .s (.slice none 0 0)], true⟩, some ⟨3, .li .i64 r, true⟩, some ⟨3, .li .i64 c, true⟩, some ⟨3, .li .i64 pi, true⟩]))
  | _, _ => none
theorem delN10_ok : ∀ args bs out, delN10_ent args bs = some (true, out) → Fact Tryd.prog gTab 111 args bs out := by
  intro args bs out h
  unfold delN10_ent at h
  split at h
  · rename_i n m n1 n2 x1 r c pi
    simp only [Option.some.injEq, Prod.mk.injEq] at h
    obtain ⟨_, rfl⟩ := h
    exact delN10_fact n m n1 n2 x1 r c pi
  · cases h
noncomputable def T_delN10 : Tbl := Tbl.cons 111 delN10_ent T_idxN10
theorem T_delN10_ok : CallOk Tryd.prog gTab T_delN10 := cons_ok T_idxN10_ok delN10_ok
/-! slices.IndexFunc[[]int,int] -/
noncomputable abbrev qb41 (n : Int) (m : List (Int × List Int)) (n1 : Nat) (n2 : Nat) (x1 : Nat) (x2 : Nat) (x3 : Nat) (r : List Int) (c : List Int) (pi : List Int) (pr : List Int) (pc : List Int) : List (Nat × Option Blk) := [(0, some ⟨98, .agg [.ptr 1 8 0 0], true⟩), (1, some ⟨100, .agg [vI n, vR m, .sl 2 1 0 n1, .sl 3 1 0 n2, .sl 4 1 0 x1, .sl 5 1 0 x2, .sl 6 1 0 x3, vN], true⟩), (2, bL 3 r), (3, bL 3 c), (4, bL 3 pi), (5, bL 3 pr), (6, bL 3 pc)]
noncomputable abbrev qb42 : List (Nat × V) := [(0, vN), (1, .fn (.func 112) [] [.ptr 0 1 0 0]), (4, vI 0), (7, vI 0), (8, vI 0)]
noncomputable abbrev qb43 (fuel : Nat) : Ctx Out := (fnX Tryd.prog mode11 T_delN10 fuel 19 7)
noncomputable def idxN11F_s2 {R : Type} (n : Int) (m : List (Int × List Int)) (n1 n2 x1 x2 x3 : Nat) (r c pi pr pc : List Int) (c0 : Option R) : Option R :=
  c0
theorem idxN11F_s2_eq (fuel k : Nat) (K : Ex → St → Option Out) (n : Int) (m : List (Int × List Int)) (n1 n2 x1 x2 x3 : Nat) (r c pi pr pc : List Int) : lpN (sub (bodyOf Tryd.prog 121) [1, 0, 1, 0, 0]) (qb43 fuel) 16 [0, 1, 4, 7, 8] (k + 1) ⟨qb42, (qb41 n m n1 n2 x1 x2 x3 r c pi pr pc), 7, none⟩ K = idxN11F_s2 n m n1 n2 x1 x2 x3 r c pi pr pc (K (.exit 0) ⟨[(4, vI 0)], (qb41 n m n1 n2 x1 x2 x3 r c pi pr pc), 7, none⟩) := by kernel_rfl
noncomputable def idxN11F_l1 {R : Type} (fuel : Nat) (n : Int) (m : List (Int × List Int)) (n1 n2 x1 x2 x3 : Nat) (r c pi pr pc : List Int) (k0 : Option R) : Nat → Option R
  | 0 => none
  | k + 1 =>
    (idxN11F_s2 n m n1 n2 x1 x2 x3 r c pi pr pc (k0))
theorem idxN11F_l1_eq (fuel : Nat) (n : Int) (m : List (Int × List Int)) (n1 n2 x1 x2 x3 : Nat) (r c pi pr pc : List Int) (K : Ex → St → Option Out) : ∀ (k : Nat) , lpN (sub (bodyOf Tryd.prog 121) [1, 0, 1, 0, 0]) (qb43 fuel) 16 [0, 1, 4, 7, 8] k ⟨qb42, (qb41 n m n1 n2 x1 x2 x3 r c pi pr pc), 7, none⟩ K = idxN11F_l1 fuel n m n1 n2 x1 x2 x3 r c pi pr pc (K (.exit 0) ⟨[(4, vI 0)], (qb41 n m n1 n2 x1 x2 x3 r c pi pr pc), 7, none⟩) k 
  | 0 => rfl
  | k + 1 => by
    unfold idxN11F_l1
    exact (idxN11F_s2_eq fuel k K n m n1 n2 x1 x2 x3 r c pi pr pc)
noncomputable def idxN11F_s3 {R : Type} (n : Int) (m : List (Int × List Int)) (n1 n2 x1 x2 x3 : Nat) (r c pi pr pc : List Int) (c0 : Int → Nat → Int → (List (Int × List Int)) → Nat → Nat → Nat → Nat → Nat → Nat → Nat → Nat → Nat → Nat → List Int → List Int → List Int → List Int → List Int → Option R) : Option R :=
  c0 (-1) 0 n m 0 n1 0 n2 0 x1 0 x2 0 x3 r c pi pr pc
theorem idxN11F_s3_eq (fuel : Nat)  (n : Int) (m : List (Int × List Int)) (n1 n2 x1 x2 x3 : Nat) (r c pi pr pc : List Int) : (kont (qb43 fuel) (bodyOf Tryd.prog 121) [1, 0, 1, 0] 16 (endK Tryd.prog 2 7 121)) (.exit 0) ⟨[(4, vI 0)], (qb41 n m n1 n2 x1 x2 x3 r c pi pr pc), 7, none⟩ = idxN11F_s3 n m n1 n2 x1 x2 x3 r c pi pr pc (fun a1 a2 a3 a4 a5 a6 a7 a8 a9 a0 a11 a12 a13 a14 a15 a16 a17 a18 a19 => some (vI a1, [some ⟨98, .agg [.ptr 1 8 a2 0], true⟩, some ⟨100, .agg [vI a3, vR a4, .sl 2 1 a5 a6, .sl 3 1 a7 a8, .sl 4 1 a9 a0, .sl 5 1 a11 a12, .sl 6 1 a13 a14, vN], true⟩, bL 3 a15, bL 3 a16, bL 3 a17, bL 3 a18, bL 3 a19])) := by kernel_rfl
noncomputable def idxN11F_s1 {R : Type} (n : Int) (m : List (Int × List Int)) (n1 n2 x1 x2 x3 : Nat) (r c pi pr pc : List Int) (c0 : Option R) : Option R :=
  c0
theorem idxN11F_s1_eq (fuel : Nat)  (n : Int) (m : List (Int × List Int)) (n1 n2 x1 x2 x3 : Nat) (r c pi pr pc : List Int) : callN Tryd.prog mode11 T_delN10 fuel 121 [vN, .fn (.func 112) [] [.ptr 0 1 0 0]] [⟨98, .agg [.ptr 1 8 0 0], true⟩, ⟨100, .agg [vI n, vR m, .sl 2 1 0 n1, .sl 3 1 0 n2, .sl 4 1 0 x1, .sl 5 1 0 x2, .sl 6 1 0 x3, vN], true⟩, ⟨3, vL r, true⟩, ⟨3, vL c, true⟩, ⟨3, vL pi, true⟩, ⟨3, vL pr, true⟩, ⟨3, vL pc, true⟩] = idxN11F_s1 n m n1 n2 x1 x2 x3 r c pi pr pc (lpN (sub (bodyOf Tryd.prog 121) [1, 0, 1, 0, 0]) (qb43 fuel) 16 [0, 1, 4, 7, 8] fuel ⟨qb42, (qb41 n m n1 n2 x1 x2 x3 r c pi pr pc), 7, none⟩ (kont (qb43 fuel) (bodyOf Tryd.prog 121) [1, 0, 1, 0] 16 (endK Tryd.prog 2 7 121))) := by kernel_rfl
noncomputable def idxN11F {R : Type} (fuel : Nat) (n : Int) (m : List (Int × List Int)) (n1 n2 x1 x2 x3 : Nat) (r c pi pr pc : List Int) (r0 : Int → Nat → Int → (List (Int × List Int)) → Nat → Nat → Nat → Nat → Nat → Nat → Nat → Nat → Nat → Nat → List Int → List Int → List Int → List Int → List Int → Option R) : Option R :=
  (idxN11F_s1 n m n1 n2 x1 x2 x3 r c pi pr pc ((idxN11F_l1 fuel n m n1 n2 x1 x2 x3 r c pi pr pc ((idxN11F_s3 n m n1 n2 x1 x2 x3 r c pi pr pc (fun a1 a2 a3 a4 a5 a6 a7 a8 a9 a0 a11 a12 a13 a14 a15 a16 a17 a18 a19 => r0 a1 a2 a3 a4 a5 a6 a7 a8 a9 a0 a11 a12 a13 a14 a15 a16 a17 a18 a19))) fuel)))
theorem idxN11F_eq (fuel : Nat) (n : Int) (m : List (Int × List Int)) (n1 n2 x1 x2 x3 : Nat) (r c pi pr pc : List Int) : callN Tryd.prog mode11 T_delN10 fuel 121 [.s (.slice none 0 0), .fn (.func 112) [] [.ptr 0 1 0 0]] [⟨98, .agg [.ptr 1 8 0 0], true⟩, ⟨100, .agg [.s (.int .i64 n), .lt (.pair (.int .i64) (.sl (.int .u64))) m, .sl 2 1 0 n1, .sl 3 1 0 n2, .sl 4 1 0 x1, .sl 5 1 0 x2, .sl 6 1 0 x3, .s (.slice none 0 0)], true⟩, ⟨3, .li .i64 r, true⟩, ⟨3, .li .i64 c, true⟩, ⟨3, .li .i64 pi, true⟩, ⟨3, .li .i64 pr, true⟩, ⟨3, .li .i64 pc, true⟩] = idxN11F fuel n m n1 n2 x1 x2 x3 r c pi pr pc (fun z0 z1 z2 z3 z4 z5 z6 z7 z8 z9 z10 z11 z12 z13 z14 z15 z16 z17 z18 => some (.s (.int .i64 z0), [some ⟨98, .agg [.ptr 1 8 z1 0], true⟩, some ⟨100, .agg [.s (.int .i64 z2), .lt (.pair (.int .i64) (.sl (.int .u64))) z3, .sl 2 1 z4 z5, .sl 3 1 z6 z7, .sl 4 1 z8 z9, .sl 5 1 z10 z11, .sl 6 1 z12 z13, .s (.slice none 0 0)], true⟩, some ⟨3, .li .i64 z14, true⟩, some ⟨3, .li .i64 z15, true⟩, some ⟨3, .li .i64 z16, true⟩, some ⟨3, .li .i64 z17, true⟩, some ⟨3, .li .i64 z18, true⟩])) := by
  unfold idxN11F
  exact (idxN11F_s1_eq fuel  n m n1 n2 x1 x2 x3 r c pi pr pc).trans (congr (Eq.refl (idxN11F_s1 (R := Out) n m n1 n2 x1 x2 x3 r c pi pr pc)) ((idxN11F_l1_eq fuel n m n1 n2 x1 x2 x3 r c pi pr pc (kont (qb43 fuel) (bodyOf Tryd.prog 121) [1, 0, 1, 0] 16 (endK Tryd.prog 2 7 121)) fuel ).trans (congrFun (congr (Eq.refl (idxN11F_l1 (R := Out) fuel n m n1 n2 x1 x2 x3 r c pi pr pc)) ((idxN11F_s3_eq fuel  n m n1 n2 x1 x2 x3 r c pi pr pc))) fuel)))
theorem idxN11_fact (n : Int) (m : List (Int × List Int)) (n1 : Nat) (n2 : Nat) (x1 : Nat) (x2 : Nat) (x3 : Nat) (r : List Int) (c : List Int) (pi : List Int) (pr : List Int) (pc : List Int) : Fact Tryd.prog gTab 121 [.s (.slice none 0 0), .fn (.func 112) [] [.ptr 0 1 0 0]] [⟨98, .agg [.ptr 1 8 0 0], true⟩, ⟨100, .agg [.s (.int .i64 n), .lt (.pair (.int .i64) (.sl (.int .u64))) m, .sl 2 1 0 n1, .sl 3 1 0 n2, .sl 4 1 0 x1, .sl 5 1 0 x2, .sl 6 1 0 x3, .s (.slice none 0 0)], true⟩, ⟨3, .li .i64 r, true⟩, ⟨3, .li .i64 c, true⟩, ⟨3, .li .i64 pi, true⟩, ⟨3, .li .i64 pr, true⟩, ⟨3, .li .i64 pc, true⟩] (.s (.int .i64 (-1)), [some ⟨98, .agg [.ptr 1 8 0 0], true⟩, some ⟨100, .agg [.s (.int .i64 n), .lt (.pair (.int .i64) (.sl (.int .u64))) m, .sl 2 1 0 n1, .sl 3 1 0 n2, .sl 4 1 0 x1, .sl 5 1 0 x2, .sl 6 1 0 x3, .s (.slice none 0 0)], true⟩, some ⟨3, .li .i64 r, true⟩, some ⟨3, .li .i64 c, true⟩, some ⟨3, .li .i64 pi, true⟩, some ⟨3, .li .i64 pr, true⟩, some ⟨3, .li .i64 pc, true⟩]) := by
  refine callN_fact hN hM T_delN10_ok (n := 1) (mode := mode11) ?_
  rw [idxN11F_eq]
  rfl
noncomputable def idxN11_ent : List V → List Blk → Option (Bool × Out)
  | [.s (.slice none 0 0), .fn (.func 112) [] [.ptr 0 1 0 0]], [⟨98, .agg [.ptr 1 8 0 0], true⟩, ⟨100, .agg [.s (.int .i64 n), .lt (.pair (.int .i64) (.sl (.int .u64))) m, .sl 2 1 0 n1, .sl 3 1 0 n2, .sl 4 1 0 x1, .sl 5 1 0 x2, .sl 6 1 0 x3, .s (.slice none 0 0)], true⟩, ⟨3, .li .i64 r, true⟩, ⟨3, .li .i64 c, true⟩, ⟨3, .li .i64 pi, true⟩, ⟨3, .li .i64 pr, true⟩, ⟨3, .li .i64 pc, true⟩] => some (true, (.s (.int .i64 (-1)), [some ⟨98, .agg [.ptr 1 8 0 0], true⟩, some ⟨100, .agg [.s (.int .i64 n), .lt (.pair (.int .i64) (.sl (.int .u64))) m, .sl 2 1 0 n1, .sl 3 1 0 n2, .sl 4 1 0 x1, .sl 5 1 0 x2, .sl 6 1 0 x3, .s (.slice none 0 0)], true⟩, some ⟨3, .li .i64 r, true⟩, some ⟨3, .li .i64 c, true⟩, some ⟨3, .li .i64 pi, true⟩, some ⟨3, .li .i64 pr, true⟩, some ⟨3, .li .i64 pc, true⟩]))
  | _, _ => none
theorem idxN11_ok : ∀ args bs out, idxN11_ent args bs = some (true, out) → Fact Tryd.prog gTab 121 args bs out := by
  intro args bs out h
  unfold idxN11_ent at h
  split at h
  · rename_i n m n1 n2 x1 x2 x3 r c pi pr pc
    simp only [Option.some.injEq, Prod.mk.injEq] at h
    obtain ⟨_, rfl⟩ := h
    exact idxN11_fact n m n1 n2 x1 x2 x3 r c pi pr pc
  · cases h
noncomputable def T_idxN11 : Tbl := Tbl.cons 121 idxN11_ent T_delN10
theorem T_idxN11_ok : CallOk Tryd.prog gTab T_idxN11 := cons_ok T_delN10_ok idxN11_ok
/-! slices.DeleteFunc[[]int,int] -/
noncomputable def delN11F_s1 {R : Type} (n : Int) (m : List (Int × List Int)) (n1 n2 x1 x2 x3 : Nat) (r c pi pr pc : List Int) (c0 : Nat → Int → (List (Int × List Int)) → Nat → Nat → Nat → Nat → Nat → Nat → Nat → Nat → Nat → Nat → List Int → List Int → List Int → List Int → List Int → Option R) : Option R :=
  c0 0 n m 0 n1 0 n2 0 x1 0 x2 0 x3 r c pi pr pc
theorem delN11F_s1_eq (fuel : Nat)  (n : Int) (m : List (Int × List Int)) (n1 n2 x1 x2 x3 : Nat) (r c pi pr pc : List Int) : callN Tryd.prog mode11 T_idxN11 fuel 111 [vN, .fn (.func 112) [] [.ptr 0 1 0 0]] [⟨98, .agg [.ptr 1 8 0 0], true⟩, ⟨100, .agg [vI n, vR m, .sl 2 1 0 n1, .sl 3 1 0 n2, .sl 4 1 0 x1, .sl 5 1 0 x2, .sl 6 1 0 x3, vN], true⟩, ⟨3, vL r, true⟩, ⟨3, vL c, true⟩, ⟨3, vL pi, true⟩, ⟨3, vL pr, true⟩, ⟨3, vL pc, true⟩] = delN11F_s1 n m n1 n2 x1 x2 x3 r c pi pr pc (fun a1 a2 a3 a4 a5 a6 a7 a8 a9 a0 a11 a12 a13 a14 a15 a16 a17 a18 => some (vN, [some ⟨98, .agg [.ptr 1 8 a1 0], true⟩, some ⟨100, .agg [vI a2, vR a3, .sl 2 1 a4 a5, .sl 3 1 a6 a7, .sl 4 1 a8 a9, .sl 5 1 a0 a11, .sl 6 1 a12 a13, vN], true⟩, bL 3 a14, bL 3 a15, bL 3 a16, bL 3 a17, bL 3 a18])) := by kernel_rfl
noncomputable def delN11F {R : Type} (fuel : Nat) (n : Int) (m : List (Int × List Int)) (n1 n2 x1 x2 x3 : Nat) (r c pi pr pc : List Int) (r0 : Nat → Int → (List (Int × List Int)) → Nat → Nat → Nat → Nat → Nat → Nat → Nat → Nat → Nat → Nat → List Int → List Int → List Int → List Int → List Int → Option R) : Option R :=
  (delN11F_s1 n m n1 n2 x1 x2 x3 r c pi pr pc (fun a1 a2 a3 a4 a5 a6 a7 a8 a9 a0 a11 a12 a13 a14 a15 a16 a17 a18 => r0 a1 a2 a3 a4 a5 a6 a7 a8 a9 a0 a11 a12 a13 a14 a15 a16 a17 a18))
theorem delN11F_eq (fuel : Nat) (n : Int) (m : List (Int × List Int)) (n1 n2 x1 x2 x3 : Nat) (r c pi pr pc : List Int) : callN Tryd.prog mode11 T_idxN11 fuel 111 [.s (.slice none 0 0), .fn (.func 112) [] [.ptr 0 1 0 0]] [⟨98, .agg [.ptr 1 8 0 0], true⟩, ⟨100, .agg [.s (.int .i64 n), .lt (.pair (.int .i64) (.sl (.int .u64))) m, .sl 2 1 0 n1, .sl 3 1 0 n2, .sl 4 1 0 x1, .sl 5 1 0 x2, .sl 6 1 0 x3, .s (.slice none 0 0)], true⟩, ⟨3, .li .i64 r, true⟩, ⟨3, .li .i64 c, true⟩, ⟨3, .li .i64 pi, true⟩, ⟨3, .li .i64 pr, true⟩, ⟨3, .li .i64 pc, true⟩] = delN11F fuel n m n1 n2 x1 x2 x3 r c pi pr pc (fun z0 z1 z2 z3 z4 z5 z6 z7 z8 z9 z10 z11 z12 z13 z14 z15 z16 z17 => some (.s (.slice none 0 0), [some ⟨98, .agg [.ptr 1 8 z0 0], true⟩, some ⟨100, .agg [.s (.int .i64 z1), .lt (.pair (.int .i64) (.sl (.int .u64))) z2, .sl 2 1 z3 z4, .sl 3 1 z5 z6, .sl 4 1 z7 z8, .sl 5 1 z9 z10, .sl 6 1 z11 z12, .s (.slice none 0 0)], true⟩, some ⟨3, .li .i64 z13, true⟩, some ⟨3, .li .i64 z14, true⟩, some ⟨3, .li .i64 z15, true⟩, some ⟨3, .li .i64 z16, true⟩, some ⟨3, .li .i64 z17, true⟩])) := by
  unfold delN11F
  exact (delN11F_s1_eq fuel  n m n1 n2 x1 x2 x3 r c pi pr pc)
theorem delN11_fact (n : Int) (m : List (Int × List Int)) (n1 : Nat) (n2 : Nat) (x1 : Nat) (x2 : Nat) (x3 : Nat) (r : List Int) (c : List Int) (pi : List Int) (pr : List Int) (pc : List Int) : Fact Tryd.prog gTab 111 [.s (.slice none 0 0), .fn (.func 112) [] [.ptr 0 1 0 0]] [⟨98, .agg [.ptr 1 8 0 0], true⟩, ⟨100, .agg [.s (.int .i64 n), .lt (.pair (.int .i64) (.sl (.int .u64))) m, .sl 2 1 0 n1, .sl 3 1 0 n2, .sl 4 1 0 x1, .sl 5 1 0 x2, .sl 6 1 0 x3, .s (.slice none 0 0)], true⟩, ⟨3, .li .i64 r, true⟩, ⟨3, .li .i64 c, true⟩, ⟨3, .li .i64 pi, true⟩, ⟨3, .li .i64 pr, true⟩, ⟨3, .li .i64 pc, true⟩] (.s (.slice none 0 0), [some ⟨98, .agg [.ptr 1 8 0 0], true⟩, some ⟨100, .agg [.s (.int .i64 n), .lt (.pair (.int .i64) (.sl (.int .u64))) m, .sl 2 1 0 n1, .sl 3 1 0 n2, .sl 4 1 0 x1, .sl 5 1 0 x2, .sl 6 1 0 x3, .s (.slice none 0 0)], true⟩, some ⟨3, .li .i64 r, true⟩, some ⟨3, .li .i64 c, true⟩, some ⟨3, .li .i64 pi, true⟩, some ⟨3, .li .i64 pr, true⟩, some ⟨3, .li .i64 pc, true⟩]) := by
  refine callN_fact hN hM T_idxN11_ok (n := 1) (mode := mode11) ?_
  rw [delN11F_eq]
  rfl
noncomputable def delN11_ent : List V → List Blk → Option (Bool × Out)
  | [.s (.slice none 0 0), .fn (.func 112) [] [.ptr 0 1 0 0]], [⟨98, .agg [.ptr 1 8 0 0], true⟩, ⟨100, .agg [.s (.int .i64 n), .lt (.pair (.int .i64) (.sl (.int .u64))) m, .sl 2 1 0 n1, .sl 3 1 0 n2, .sl 4 1 0 x1, .sl 5 1 0 x2, .sl 6 1 0 x3, .s (.slice none 0 0)], true⟩, ⟨3, .li .i64 r, true⟩, ⟨3, .li .i64 c, true⟩, ⟨3, .li .i64 pi, true⟩, ⟨3, .li .i64 pr, true⟩, ⟨3, .li .i64 pc, true⟩] => some (true, (.s (.slice none 0 0), [some ⟨98, .agg [.ptr 1 8 0 0], true⟩, some ⟨100, .agg [.s (.int .i64 n), .lt (.pair (.int .i64) (.sl (.int .u64))) m, .sl 2 1 0 n1, .sl 3 1 0 n2, .sl 4 1 0 x1, .sl 5 1 0 x2, .sl 6 1 0 x3, .s (.slice none 0 0)], true⟩, some ⟨3, .li .i64 r, true⟩, some ⟨3, .li .i64 c, true⟩, some ⟨3, .li .i64 pi, true⟩, some ⟨3, .li .i64 pr, true⟩, some ⟨3, .li .i64 pc, true⟩]))
  | _, _ => none
theorem delN11_ok : ∀ args bs out, delN11_ent args bs = some (true, out) → Fact Tryd.prog gTab 111 args bs out := by
  intro args bs out h
  unfold delN11_ent at h
  split at h
  · rename_i n m n1 n2 x1 x2 x3 r c pi pr pc
    simp only [Option.some.injEq, Prod.mk.injEq] at h
    obtain ⟨_, rfl⟩ := h
    exact delN11_fact n m n1 n2 x1 x2 x3 r c pi pr pc
  · cases h
noncomputable def T_delN11 : Tbl := Tbl.cons 111 delN11_ent T_idxN11
theorem T_delN11_ok : CallOk Tryd.prog gTab T_delN11 := cons_ok T_idxN11_ok delN11_ok
/-! (*downpour/inactive.work).active -/
noncomputable def active00F_s1 {R : Type} (q : Int) (n1 : Nat) (r : List Int) (n : Int) (m : List (Int × List Int)) (n2 : Nat) (c : List Int) (c0 : Int → (List (Int × List Int)) → Nat → Nat → Nat → Nat → List Int → List Int → Option R) : Option R :=
  bnd (below q n1) fun j1 =>
  bnd (r[(0 + j1)]?) fun e2 =>
  br (e2 == 1)
    (c0 n m 0 n1 0 n2 r c)
    (bnd (ix m q) fun e0 =>
    grd (okW e0.2 && rtS e0.1 e0.2 && decide ((plS e0.2).length = 0)) <|
    c0 n m 0 n1 0 n2 r c)
theorem active00F_s1_eq (fuel : Nat)  (q : Int) (n1 : Nat) (r : List Int) (n : Int) (m : List (Int × List Int)) (n2 : Nat) (c : List Int) : callN Tryd.prog mode11 T_delN11 fuel 57 [.ptr 0 8 0 0, vI q] [⟨100, .agg [vI n, vR m, .sl 1 1 0 n1, .sl 2 1 0 n2, vN, vN, vN, vN], true⟩, ⟨3, vL r, true⟩, ⟨3, vL c, true⟩] = active00F_s1 q n1 r n m n2 c (fun a3 a4 a5 a6 a7 a8 a9 a0 => some (vN, [some ⟨100, .agg [vI a3, vR a4, .sl 1 1 a5 a6, .sl 2 1 a7 a8, vN, vN, vN, vN], true⟩, bL 3 a9, bL 3 a0])) := by kernel_rfl
noncomputable def active00F {R : Type} (fuel : Nat) (q n : Int) (m : List (Int × List Int)) (n1 n2 : Nat) (r c : List Int) (r0 : Int → (List (Int × List Int)) → Nat → Nat → Nat → Nat → List Int → List Int → Option R) : Option R :=
  (active00F_s1 q n1 r n m n2 c (fun a3 a4 a5 a6 a7 a8 a9 a0 => r0 a3 a4 a5 a6 a7 a8 a9 a0))
theorem active00F_eq (fuel : Nat) (q n : Int) (m : List (Int × List Int)) (n1 n2 : Nat) (r c : List Int) : callN Tryd.prog mode11 T_delN11 fuel 57 [.ptr 0 8 0 0, .s (.int .i64 q)] [⟨100, .agg [.s (.int .i64 n), .lt (.pair (.int .i64) (.sl (.int .u64))) m, .sl 1 1 0 n1, .sl 2 1 0 n2, .s (.slice none 0 0), .s (.slice none 0 0), .s (.slice none 0 0), .s (.slice none 0 0)], true⟩, ⟨3, .li .i64 r, true⟩, ⟨3, .li .i64 c, true⟩] = active00F fuel q n m n1 n2 r c (fun z0 z1 z2 z3 z4 z5 z6 z7 => some (.s (.slice none 0 0), [some ⟨100, .agg [.s (.int .i64 z0), .lt (.pair (.int .i64) (.sl (.int .u64))) z1, .sl 1 1 z2 z3, .sl 2 1 z4 z5, .s (.slice none 0 0), .s (.slice none 0 0), .s (.slice none 0 0), .s (.slice none 0 0)], true⟩, some ⟨3, .li .i64 z6, true⟩, some ⟨3, .li .i64 z7, true⟩])) := by
  unfold active00F
  exact (active00F_s1_eq fuel  q n1 r n m n2 c)
theorem active00_fact (q : Int) (n : Int) (m : List (Int × List Int)) (n1 : Nat) (n2 : Nat) (r : List Int) (c : List Int) (hg : (actOk n m r c q && decide (n1 = r.length) && decide (n2 = c.length)) = true) : Fact Tryd.prog gTab 57 [.ptr 0 8 0 0, .s (.int .i64 q)] [⟨100, .agg [.s (.int .i64 n), .lt (.pair (.int .i64) (.sl (.int .u64))) m, .sl 1 1 0 n1, .sl 2 1 0 n2, .s (.slice none 0 0), .s (.slice none 0 0), .s (.slice none 0 0), .s (.slice none 0 0)], true⟩, ⟨3, .li .i64 r, true⟩, ⟨3, .li .i64 c, true⟩] (.li .i64 (actS m r c q), [some ⟨100, .agg [.s (.int .i64 n), .lt (.pair (.int .i64) (.sl (.int .u64))) m, .sl 1 1 0 n1, .sl 2 1 0 n2, .s (.slice none 0 0), .s (.slice none 0 0), .s (.slice none 0 0), .s (.slice none 0 0)], true⟩, some ⟨3, .li .i64 r, true⟩, some ⟨3, .li .i64 c, true⟩]) := by
  simp only [Bool.and_eq_true, decide_eq_true_eq] at hg
  obtain ⟨⟨hA, h1⟩, h2⟩ := hg
  obtain ⟨hok, hm, hr, hc, q0, q1⟩ := actOk_iff.1 hA
  obtain ⟨j, rfl⟩ : ∃ j : Nat, q = (j : Int) := ⟨q.toNat, by omega⟩
  have hjm : j < m.length := by omega
  have hjr : j < r.length := by omega
  obtain ⟨hn64, hml, hrow⟩ := mrt_iff.1 hm
  have hmem := List.getElem_mem hjm
  obtain ⟨g1, g2⟩ := hrow _ hmem
  have hw := okM_iff.1 hok _ hmem
  have eb : below (j : Int) n1 = some j := by rw [below_of (by omega) (by omega)]; rfl
  have er : r[0 + j]? = some r[j] := by rw [Nat.zero_add]; exact List.getElem?_eq_getElem hjr
  have em : ix m (j : Int) = some m[j] := (ix_nat m j).trans (List.getElem?_eq_getElem hjm)
  have es : actS m r c (j : Int) = if r[j] = 1 then [] else keepC c (plS (m[j]).2) := by
    rw [actS_eq]; unfold actI
    rw [Int.toNat_natCast, List.getD_eq_getElem?_getD, List.getElem?_eq_getElem hjr, List.getD_eq_getElem?_getD, List.getElem?_eq_getElem hjm]
    rfl
  obtain ⟨p1, p2⟩ := plc_le64 hw g2 (by omega)
  have hd : delOk c (plS (m[j]).2) = true := delOk_iff.2 ⟨by omega, fun i hi => by have := p2 i hi; omega⟩
  rw [es]
  by_cases hc1 : r[j] = 1
  · rw [if_pos hc1]
    refine Fact.out (v := .s (.slice none 0 0)) ?_ (fun _ _ _ x h => RV_nil_li h)
    refine callN_fact hN hM T_delN11_ok (n := 0) (mode := mode11) ?_
    rw [active00F_eq]
    unfold active00F active00F_s1
    rw [bnd_of eb, bnd_of er, br_if, if_pos (by simp [hc1])]
  · rw [if_neg hc1]
    by_cases hp : (plS (m[j]).2).length = 0
    · rw [List.eq_nil_of_length_eq_zero hp, keep_nil]
      refine Fact.out (v := .s (.slice none 0 0)) ?_ (fun _ _ _ x h => RV_nil_li h)
      refine callN_fact hN hM T_delN11_ok (n := 0) (mode := mode11) ?_
      rw [active00F_eq]
      unfold active00F active00F_s1
      rw [bnd_of eb, bnd_of er, br_if, if_neg (by simp [hc1]), bnd_of em, grd_of (by rw [hw, g2, hp]; rfl)]
    · refine callN_fact hN hM T_PlacesOwn_1_ok (n := 0) (mode := mode11) ?_
      rw [actO00F_eq]
      unfold actO00F actO00F_s1
      rw [bnd_of eb, bnd_of er, br_if, if_neg (by simp [hc1]), bnd_of em, grd_of (by rw [hw, g2]; simp; omega), grd_of (by rw [hd]; simp; omega), List.drop_zero, List.take_append_of_le_length (Nat.le_refl _), List.take_length]
noncomputable def active00_ent : List V → List Blk → Option (Bool × Out)
  | [.ptr 0 8 0 0, .s (.int .i64 q)], [⟨100, .agg [.s (.int .i64 n), .lt (.pair (.int .i64) (.sl (.int .u64))) m, .sl 1 1 0 n1, .sl 2 1 0 n2, .s (.slice none 0 0), .s (.slice none 0 0), .s (.slice none 0 0), .s (.slice none 0 0)], true⟩, ⟨3, .li .i64 r, true⟩, ⟨3, .li .i64 c, true⟩] => some ((actOk n m r c q && decide (n1 = r.length) && decide (n2 = c.length)), (.li .i64 (actS m r c q), [some ⟨100, .agg [.s (.int .i64 n), .lt (.pair (.int .i64) (.sl (.int .u64))) m, .sl 1 1 0 n1, .sl 2 1 0 n2, .s (.slice none 0 0), .s (.slice none 0 0), .s (.slice none 0 0), .s (.slice none 0 0)], true⟩, some ⟨3, .li .i64 r, true⟩, some ⟨3, .li .i64 c, true⟩]))
  | _, _ => none
theorem active00_ok : ∀ args bs out, active00_ent args bs = some (true, out) → Fact Tryd.prog gTab 57 args bs out := by
  intro args bs out h
  unfold active00_ent at h
  split at h
  · rename_i q n m n1 n2 r c
    simp only [Option.some.injEq, Prod.mk.injEq] at h
    obtain ⟨hg, rfl⟩ := h
    exact active00_fact q n m n1 n2 r c hg
  · cases h
noncomputable def T_active00 : Tbl := Tbl.cons 57 active00_ent T_delN11
theorem T_active00_ok : CallOk Tryd.prog gTab T_active00 := cons_ok T_delN11_ok active00_ok
/-! (*downpour/inactive.work).active -/
noncomputable def active01F_s1 {R : Type} (q : Int) (n1 : Nat) (r : List Int) (n : Int) (m : List (Int × List Int)) (n2 x2 x3 : Nat) (c pr pc : List Int) (c0 : Int → (List (Int × List Int)) → Nat → Nat → Nat → Nat → Nat → Nat → Nat → Nat → List Int → List Int → List Int → List Int → Option R) : Option R :=
  bnd (below q n1) fun j1 =>
  bnd (r[(0 + j1)]?) fun e2 =>
  br (e2 == 1)
    (c0 n m 0 n1 0 n2 0 x2 0 x3 r c pr pc)
    (bnd (ix m q) fun e0 =>
    grd (okW e0.2 && rtS e0.1 e0.2 && decide ((plS e0.2).length = 0)) <|
    c0 n m 0 n1 0 n2 0 x2 0 x3 r c pr pc)
theorem active01F_s1_eq (fuel : Nat)  (q : Int) (n1 : Nat) (r : List Int) (n : Int) (m : List (Int × List Int)) (n2 x2 x3 : Nat) (c pr pc : List Int) : callN Tryd.prog mode11 T_active00 fuel 57 [.ptr 0 8 0 0, vI q] [⟨100, .agg [vI n, vR m, .sl 1 1 0 n1, .sl 2 1 0 n2, vN, .sl 3 1 0 x2, .sl 4 1 0 x3, vN], true⟩, ⟨3, vL r, true⟩, ⟨3, vL c, true⟩, ⟨3, vL pr, true⟩, ⟨3, vL pc, true⟩] = active01F_s1 q n1 r n m n2 x2 x3 c pr pc (fun a3 a4 a5 a6 a7 a8 a9 a0 a1 a2 a13 a14 a15 a16 => some (vN, [some ⟨100, .agg [vI a3, vR a4, .sl 1 1 a5 a6, .sl 2 1 a7 a8, vN, .sl 3 1 a9 a0, .sl 4 1 a1 a2, vN], true⟩, bL 3 a13, bL 3 a14, bL 3 a15, bL 3 a16])) := by kernel_rfl
noncomputable def active01F {R : Type} (fuel : Nat) (q n : Int) (m : List (Int × List Int)) (n1 n2 x2 x3 : Nat) (r c pr pc : List Int) (r0 : Int → (List (Int × List Int)) → Nat → Nat → Nat → Nat → Nat → Nat → Nat → Nat → List Int → List Int → List Int → List Int → Option R) : Option R :=
  (active01F_s1 q n1 r n m n2 x2 x3 c pr pc (fun a3 a4 a5 a6 a7 a8 a9 a0 a1 a2 a13 a14 a15 a16 => r0 a3 a4 a5 a6 a7 a8 a9 a0 a1 a2 a13 a14 a15 a16))
theorem active01F_eq (fuel : Nat) (q n : Int) (m : List (Int × List Int)) (n1 n2 x2 x3 : Nat) (r c pr pc : List Int) : callN Tryd.prog mode11 T_active00 fuel 57 [.ptr 0 8 0 0, .s (.int .i64 q)] [⟨100, .agg [.s (.int .i64 n), .lt (.pair (.int .i64) (.sl (.int .u64))) m, .sl 1 1 0 n1, .sl 2 1 0 n2, .s (.slice none 0 0), .sl 3 1 0 x2, .sl 4 1 0 x3, .s (.slice none 0 0)], true⟩, ⟨3, .li .i64 r, true⟩, ⟨3, .li .i64 c, true⟩, ⟨3, .li .i64 pr, true⟩, ⟨3, .li .i64 pc, true⟩] = active01F fuel q n m n1 n2 x2 x3 r c pr pc (fun z0 z1 z2 z3 z4 z5 z6 z7 z8 z9 z10 z11 z12 z13 => some (.s (.slice none 0 0), [some ⟨100, .agg [.s (.int .i64 z0), .lt (.pair (.int .i64) (.sl (.int .u64))) z1, .sl 1 1 z2 z3, .sl 2 1 z4 z5, .s (.slice none 0 0), .sl 3 1 z6 z7, .sl 4 1 z8 z9, .s (.slice none 0 0)], true⟩, some ⟨3, .li .i64 z10, true⟩, some ⟨3, .li .i64 z11, true⟩, some ⟨3, .li .i64 z12, true⟩, some ⟨3, .li .i64 z13, true⟩])) := by
  unfold active01F
  exact (active01F_s1_eq fuel  q n1 r n m n2 x2 x3 c pr pc)
theorem active01_fact (q : Int) (n : Int) (m : List (Int × List Int)) (n1 : Nat) (n2 : Nat) (x2 : Nat) (x3 : Nat) (r : List Int) (c : List Int) (pr : List Int) (pc : List Int) (hg : (actOk n m r c q && decide (n1 = r.length) && decide (n2 = c.length)) = true) : Fact Tryd.prog gTab 57 [.ptr 0 8 0 0, .s (.int .i64 q)] [⟨100, .agg [.s (.int .i64 n), .lt (.pair (.int .i64) (.sl (.int .u64))) m, .sl 1 1 0 n1, .sl 2 1 0 n2, .s (.slice none 0 0), .sl 3 1 0 x2, .sl 4 1 0 x3, .s (.slice none 0 0)], true⟩, ⟨3, .li .i64 r, true⟩, ⟨3, .li .i64 c, true⟩, ⟨3, .li .i64 pr, true⟩, ⟨3, .li .i64 pc, true⟩] (.li .i64 (actS m r c q), [some ⟨100, .agg [.s (.int .i64 n), .lt (.pair (.int .i64) (.sl (.int .u64))) m, .sl 1 1 0 n1, .sl 2 1 0 n2, .s (.slice none 0 0), .sl 3 1 0 x2, .sl 4 1 0 x3, .s (.slice none 0 0)], true⟩, some ⟨3, .li .i64 r, true⟩, some ⟨3, .li .i64 c, true⟩, some ⟨3, .li .i64 pr, true⟩, some ⟨3, .li .i64 pc, true⟩]) := by
  simp only [Bool.and_eq_true, decide_eq_true_eq] at hg
  obtain ⟨⟨hA, h1⟩, h2⟩ := hg
  obtain ⟨hok, hm, hr, hc, q0, q1⟩ := actOk_iff.1 hA
  obtain ⟨j, rfl⟩ : ∃ j : Nat, q = (j : Int) := ⟨q.toNat, by omega⟩
  have hjm : j < m.length := by omega
  have hjr : j < r.length := by omega
  obtain ⟨hn64, hml, hrow⟩ := mrt_iff.1 hm
  have hmem := List.getElem_mem hjm
  obtain ⟨g1, g2⟩ := hrow _ hmem
  have hw := okM_iff.1 hok _ hmem
  have eb : below (j : Int) n1 = some j := by rw [below_of (by omega) (by omega)]; rfl
  have er : r[0 + j]? = some r[j] := by rw [Nat.zero_add]; exact List.getElem?_eq_getElem hjr
  have em : ix m (j : Int) = some m[j] := (ix_nat m j).trans (List.getElem?_eq_getElem hjm)
  have es : actS m r c (j : Int) = if r[j] = 1 then [] else keepC c (plS (m[j]).2) := by
    rw [actS_eq]; unfold actI
    rw [Int.toNat_natCast, List.getD_eq_getElem?_getD, List.getElem?_eq_getElem hjr, List.getD_eq_getElem?_getD, List.getElem?_eq_getElem hjm]
    rfl
  obtain ⟨p1, p2⟩ := plc_le64 hw g2 (by omega)
  have hd : delOk c (plS (m[j]).2) = true := delOk_iff.2 ⟨by omega, fun i hi => by have := p2 i hi; omega⟩
  rw [es]
  by_cases hc1 : r[j] = 1
  · rw [if_pos hc1]
    refine Fact.out (v := .s (.slice none 0 0)) ?_ (fun _ _ _ x h => RV_nil_li h)
    refine callN_fact hN hM T_active00_ok (n := 0) (mode := mode11) ?_
    rw [active01F_eq]
    unfold active01F active01F_s1
    rw [bnd_of eb, bnd_of er, br_if, if_pos (by simp [hc1])]
  · rw [if_neg hc1]
    by_cases hp : (plS (m[j]).2).length = 0
    · rw [List.eq_nil_of_length_eq_zero hp, keep_nil]
      refine Fact.out (v := .s (.slice none 0 0)) ?_ (fun _ _ _ x h => RV_nil_li h)
      refine callN_fact hN hM T_active00_ok (n := 0) (mode := mode11) ?_
      rw [active01F_eq]
      unfold active01F active01F_s1
      rw [bnd_of eb, bnd_of er, br_if, if_neg (by simp [hc1]), bnd_of em, grd_of (by rw [hw, g2, hp]; rfl)]
    · refine callN_fact hN hM T_PlacesOwn_1_ok (n := 0) (mode := mode11) ?_
      rw [actO01F_eq]
      unfold actO01F actO01F_s1
      rw [bnd_of eb, bnd_of er, br_if, if_neg (by simp [hc1]), bnd_of em, grd_of (by rw [hw, g2]; simp; omega), grd_of (by rw [hd]; simp; omega), List.drop_zero, List.take_append_of_le_length (Nat.le_refl _), List.take_length]
noncomputable def active01_ent : List V → List Blk → Option (Bool × Out)
  | [.ptr 0 8 0 0, .s (.int .i64 q)], [⟨100, .agg [.s (.int .i64 n), .lt (.pair (.int .i64) (.sl (.int .u64))) m, .sl 1 1 0 n1, .sl 2 1 0 n2, .s (.slice none 0 0), .sl 3 1 0 x2, .sl 4 1 0 x3, .s (.slice none 0 0)], true⟩, ⟨3, .li .i64 r, true⟩, ⟨3, .li .i64 c, true⟩, ⟨3, .li .i64 pr, true⟩, ⟨3, .li .i64 pc, true⟩] => some ((actOk n m r c q && decide (n1 = r.length) && decide (n2 = c.length)), (.li .i64 (actS m r c q), [some ⟨100, .agg [.s (.int .i64 n), .lt (.pair (.int .i64) (.sl (.int .u64))) m, .sl 1 1 0 n1, .sl 2 1 0 n2, .s (.slice none 0 0), .sl 3 1 0 x2, .sl 4 1 0 x3, .s (.slice none 0 0)], true⟩, some ⟨3, .li .i64 r, true⟩, some ⟨3, .li .i64 c, true⟩, some ⟨3, .li .i64 pr, true⟩, some ⟨3, .li .i64 pc, true⟩]))
  | _, _ => none
theorem active01_ok : ∀ args bs out, active01_ent args bs = some (true, out) → Fact Tryd.prog gTab 57 args bs out := by
  intro args bs out h
  unfold active01_ent at h
  split at h
  · rename_i q n m n1 n2 x2 x3 r c pr pc
    simp only [Option.some.injEq, Prod.mk.injEq] at h
    obtain ⟨hg, rfl⟩ := h
    exact active01_fact q n m n1 n2 x2 x3 r c pr pc hg
  · cases h
noncomputable def T_active01 : Tbl := Tbl.cons 57 active01_ent T_active00
theorem T_active01_ok : CallOk Tryd.prog gTab T_active01 := cons_ok T_active00_ok active01_ok
/-! (*downpour/inactive.work).active -/
noncomputable def active10F_s1 {R : Type} (q : Int) (n1 : Nat) (r : List Int) (n : Int) (m : List (Int × List Int)) (n2 x1 : Nat) (c pi : List Int) (c0 : Int → (List (Int × List Int)) → Nat → Nat → Nat → Nat → Nat → Nat → List Int → List Int → List Int → Option R) : Option R :=
  bnd (below q n1) fun j1 =>
  bnd (r[(0 + j1)]?) fun e2 =>
  br (e2 == 1)
    (c0 n m 0 n1 0 n2 0 x1 r c pi)
    (bnd (ix m q) fun e0 =>
    grd (okW e0.2 && rtS e0.1 e0.2 && decide ((plS e0.2).length = 0)) <|
    c0 n m 0 n1 0 n2 0 x1 r c pi)
theorem active10F_s1_eq (fuel : Nat)  (q : Int) (n1 : Nat) (r : List Int) (n : Int) (m : List (Int × List Int)) (n2 x1 : Nat) (c pi : List Int) : callN Tryd.prog mode11 T_active01 fuel 57 [.ptr 0 8 0 0, vI q] [⟨100, .agg [vI n, vR m, .sl 1 1 0 n1, .sl 2 1 0 n2, .sl 3 1 0 x1, vN, vN, vN], true⟩, ⟨3, vL r, true⟩, ⟨3, vL c, true⟩, ⟨3, vL pi, true⟩] = active10F_s1 q n1 r n m n2 x1 c pi (fun a3 a4 a5 a6 a7 a8 a9 a0 a1 a2 a13 => some (vN, [some ⟨100, .agg [vI a3, vR a4, .sl 1 1 a5 a6, .sl 2 1 a7 a8, .sl 3 1 a9 a0, vN, vN, vN], true⟩, bL 3 a1, bL 3 a2, bL 3 a13])) := by kernel_rfl
noncomputable def active10F {R : Type} (fuel : Nat) (q n : Int) (m : List (Int × List Int)) (n1 n2 x1 : Nat) (r c pi : List Int) (r0 : Int → (List (Int × List Int)) → Nat → Nat → Nat → Nat → Nat → Nat → List Int → List Int → List Int → Option R) : Option R :=
  (active10F_s1 q n1 r n m n2 x1 c pi (fun a3 a4 a5 a6 a7 a8 a9 a0 a1 a2 a13 => r0 a3 a4 a5 a6 a7 a8 a9 a0 a1 a2 a13))
theorem active10F_eq (fuel : Nat) (q n : Int) (m : List (Int × List Int)) (n1 n2 x1 : Nat) (r c pi : List Int) : callN Tryd.prog mode11 T_active01 fuel 57 [.ptr 0 8 0 0, .s (.int .i64 q)] [⟨100, .agg [.s (.int .i64 n), .lt (.pair (.int .i64) (.sl (.int .u64))) m, .sl 1 1 0 n1, .sl 2 1 0 n2, .sl 3 1 0 x1, .s (.slice none 0 0), .s (.slice none 0 0), .s (.slice none 0 0)], true⟩, ⟨3, .li .i64 r, true⟩, ⟨3, .li .i64 c, true⟩, ⟨3, .li .i64 pi, true⟩] = active10F fuel q n m n1 n2 x1 r c pi (fun z0 z1 z2 z3 z4 z5 z6 z7 z8 z9 z10 => some (.s (.slice none 0 0), [some ⟨100, .agg [.s (.int .i64 z0), .lt (.pair (.int .i64) (.sl (.int .u64))) z1, .sl 1 1 z2 z3, .sl 2 1 z4 z5, .sl 3 1 z6 z7, .s (.slice none 0 0), .s (.slice none 0 0), .s (.slice none 0 0)], true⟩, some ⟨3, .li .i64 z8, true⟩, some ⟨3, .li .i64 z9, true⟩, some ⟨3, .li .i64 z10, true⟩])) := by
  unfold active10F
  exact (active10F_s1_eq fuel  q n1 r n m n2 x1 c pi)
theorem active10_fact (q : Int) (n : Int) (m : List (Int × List Int)) (n1 : Nat) (n2 : Nat) (x1 : Nat) (r : List Int) (c : List Int) (pi : List Int) (hg : (actOk n m r c q && decide (n1 = r.length) && decide (n2 = c.length)) = true) : Fact Tryd.prog gTab 57 [.ptr 0 8 0 0, .s (.int .i64 q)] [⟨100, .agg [.s (.int .i64 n), .lt (.pair (.int .i64) (.sl (.int .u64))) m, .sl 1 1 0 n1, .sl 2 1 0 n2, .sl 3 1 0 x1, .s (.slice none 0 0), .s (.slice none 0 0), .s (.slice none 0 0)], true⟩, ⟨3, .li .i64 r, true⟩, ⟨3, .li .i64 c, true⟩, ⟨3, .li .i64 pi, true⟩] (.li .i64 (actS m r c q), [some ⟨100, .agg [.s (.int .i64 n), .lt (.pair (.int .i64) (.sl (.int .u64))) m, .sl 1 1 0 n1, .sl 2 1 0 n2, .sl 3 1 0 x1, .s (.slice none 0 0), .s (.slice none 0 0), .s (.slice none 0 0)], true⟩, some ⟨3, .li .i64 r, true⟩, some ⟨3, .li .i64 c, true⟩, some ⟨3, .li .i64 pi, true⟩]) := by
  simp only [Bool.and_eq_true, decide_eq_true_eq] at hg
  obtain ⟨⟨hA, h1⟩, h2⟩ := hg
  obtain ⟨hok, hm, hr, hc, q0, q1⟩ := actOk_iff.1 hA
  obtain ⟨j, rfl⟩ : ∃ j : Nat, q = (j : Int) := ⟨q.toNat, by omega⟩
  have hjm : j < m.length := by omega
  have hjr : j < r.length := by omega
  obtain ⟨hn64, hml, hrow⟩ := mrt_iff.1 hm
  have hmem := List.getElem_mem hjm
  obtain ⟨g1, g2⟩ := hrow _ hmem
  have hw := okM_iff.1 hok _ hmem
  have eb : below (j : Int) n1 = some j := by rw [below_of (by omega) (by omega)]; rfl
  have er : r[0 + j]? = some r[j] := by rw [Nat.zero_add]; exact List.getElem?_eq_getElem hjr
  have em : ix m (j : Int) = some m[j] := (ix_nat m j).trans (List.getElem?_eq_getElem hjm)
  have es : actS m r c (j : Int) = if r[j] = 1 then [] else keepC c (plS (m[j]).2) := by
    rw [actS_eq]; unfold actI
    rw [Int.toNat_natCast, List.getD_eq_getElem?_getD, List.getElem?_eq_getElem hjr, List.getD_eq_getElem?_getD, List.getElem?_eq_getElem hjm]
    rfl
  obtain ⟨p1, p2⟩ := plc_le64 hw g2 (by omega)
  have hd : delOk c (plS (m[j]).2) = true := delOk_iff.2 ⟨by omega, fun i hi => by have := p2 i hi; omega⟩
  rw [es]
  by_cases hc1 : r[j] = 1
  · rw [if_pos hc1]
    refine Fact.out (v := .s (.slice none 0 0)) ?_ (fun _ _ _ x h => RV_nil_li h)
    refine callN_fact hN hM T_active01_ok (n := 0) (mode := mode11) ?_
    rw [active10F_eq]
    unfold active10F active10F_s1
    rw [bnd_of eb, bnd_of er, br_if, if_pos (by simp [hc1])]
  · rw [if_neg hc1]
    by_cases hp : (plS (m[j]).2).length = 0
    · rw [List.eq_nil_of_length_eq_zero hp, keep_nil]
      refine Fact.out (v := .s (.slice none 0 0)) ?_ (fun _ _ _ x h => RV_nil_li h)
      refine callN_fact hN hM T_active01_ok (n := 0) (mode := mode11) ?_
      rw [active10F_eq]
      unfold active10F active10F_s1
      rw [bnd_of eb, bnd_of er, br_if, if_neg (by simp [hc1]), bnd_of em, grd_of (by rw [hw, g2, hp]; rfl)]
    · refine callN_fact hN hM T_PlacesOwn_1_ok (n := 0) (mode := mode11) ?_
      rw [actO10F_eq]
      unfold actO10F actO10F_s1
      rw [bnd_of eb, bnd_of er, br_if, if_neg (by simp [hc1]), bnd_of em, grd_of (by rw [hw, g2]; simp; omega), grd_of (by rw [hd]; simp; omega), List.drop_zero, List.take_append_of_le_length (Nat.le_refl _), List.take_length]
noncomputable def active10_ent : List V → List Blk → Option (Bool × Out)
  | [.ptr 0 8 0 0, .s (.int .i64 q)], [⟨100, .agg [.s (.int .i64 n), .lt (.pair (.int .i64) (.sl (.int .u64))) m, .sl 1 1 0 n1, .sl 2 1 0 n2, .sl 3 1 0 x1, .s (.slice none 0 0), .s (.slice none 0 0), .s (.slice none 0 0)], true⟩, ⟨3, .li .i64 r, true⟩, ⟨3, .li .i64 c, true⟩, ⟨3, .li .i64 pi, true⟩] => some ((actOk n m r c q && decide (n1 = r.length) && decide (n2 = c.length)), (.li .i64 (actS m r c q), [some ⟨100, .agg [.s (.int .i64 n), .lt (.pair (.int .i64) (.sl (.int .u64))) m, .sl 1 1 0 n1, .sl 2 1 0 n2, .sl 3 1 0 x1, .s (.slice none 0 0), .s (.slice none 0 0), .s (.slice none 0 0)], true⟩, some ⟨3, .li .i64 r, true⟩, some ⟨3, .li .i64 c, true⟩, some ⟨3, .li .i64 pi, true⟩]))
  | _, _ => none
theorem active10_ok : ∀ args bs out, active10_ent args bs = some (true, out) → Fact Tryd.prog gTab 57 args bs out := by
  intro args bs out h
  unfold active10_ent at h
  split at h
  · rename_i q n m n1 n2 x1 r c pi
    simp only [Option.some.injEq, Prod.mk.injEq] at h
    obtain ⟨hg, rfl⟩ := h
    exact active10_fact q n m n1 n2 x1 r c pi hg
  · cases h
noncomputable def T_active10 : Tbl := Tbl.cons 57 active10_ent T_active01
theorem T_active10_ok : CallOk Tryd.prog gTab T_active10 := cons_ok T_active01_ok active10_ok
/-! (*downpour/inactive.work).active -/
noncomputable def active11F_s1 {R : Type} (q : Int) (n1 : Nat) (r : List Int) (n : Int) (m : List (Int × List Int)) (n2 x1 x2 x3 : Nat) (c pi pr pc : List Int) (c0 : Int → (List (Int × List Int)) → Nat → Nat → Nat → Nat → Nat → Nat → Nat → Nat → Nat → Nat → List Int → List Int → List Int → List Int → List Int → Option R) : Option R :=
  bnd (below q n1) fun j1 =>
  bnd (r[(0 + j1)]?) fun e2 =>
  br (e2 == 1)
    (c0 n m 0 n1 0 n2 0 x1 0 x2 0 x3 r c pi pr pc)
    (bnd (ix m q) fun e0 =>
    grd (okW e0.2 && rtS e0.1 e0.2 && decide ((plS e0.2).length = 0)) <|
    c0 n m 0 n1 0 n2 0 x1 0 x2 0 x3 r c pi pr pc)
theorem active11F_s1_eq (fuel : Nat)  (q : Int) (n1 : Nat) (r : List Int) (n : Int) (m : List (Int × List Int)) (n2 x1 x2 x3 : Nat) (c pi pr pc : List Int) : callN Tryd.prog mode11 T_active10 fuel 57 [.ptr 0 8 0 0, vI q] [⟨100, .agg [vI n, vR m, .sl 1 1 0 n1, .sl 2 1 0 n2, .sl 3 1 0 x1, .sl 4 1 0 x2, .sl 5 1 0 x3, vN], true⟩, ⟨3, vL r, true⟩, ⟨3, vL c, true⟩, ⟨3, vL pi, true⟩, ⟨3, vL pr, true⟩, ⟨3, vL pc, true⟩] = active11F_s1 q n1 r n m n2 x1 x2 x3 c pi pr pc (fun a3 a4 a5 a6 a7 a8 a9 a0 a1 a2 a13 a14 a15 a16 a17 a18 a19 => some (vN, [some ⟨100, .agg [vI a3, vR a4, .sl 1 1 a5 a6, .sl 2 1 a7 a8, .sl 3 1 a9 a0, .sl 4 1 a1 a2, .sl 5 1 a13 a14, vN], true⟩, bL 3 a15, bL 3 a16, bL 3 a17, bL 3 a18, bL 3 a19])) := by kernel_rfl
noncomputable def active11F {R : Type} (fuel : Nat) (q n : Int) (m : List (Int × List Int)) (n1 n2 x1 x2 x3 : Nat) (r c pi pr pc : List Int) (r0 : Int → (List (Int × List Int)) → Nat → Nat → Nat → Nat → Nat → Nat → Nat → Nat → Nat → Nat → List Int → List Int → List Int → List Int → List Int → Option R) : Option R :=
  (active11F_s1 q n1 r n m n2 x1 x2 x3 c pi pr pc (fun a3 a4 a5 a6 a7 a8 a9 a0 a1 a2 a13 a14 a15 a16 a17 a18 a19 => r0 a3 a4 a5 a6 a7 a8 a9 a0 a1 a2 a13 a14 a15 a16 a17 a18 a19))
theorem active11F_eq (fuel : Nat) (q n : Int) (m : List (Int × List Int)) (n1 n2 x1 x2 x3 : Nat) (r c pi pr pc : List Int) : callN Tryd.prog mode11 T_active10 fuel 57 [.ptr 0 8 0 0, .s (.int .i64 q)] [⟨100, .agg [.s (.int .i64 n), .lt (.pair (.int .i64) (.sl (.int .u64))) m, .sl 1 1 0 n1, .sl 2 1 0 n2, .sl 3 1 0 x1, .sl 4 1 0 x2, .sl 5 1 0 x3, .s (.slice none 0 0)], true⟩, ⟨3, .li .i64 r, true⟩, ⟨3, .li .i64 c, true⟩, ⟨3, .li .i64 pi, true⟩, ⟨3, .li .i64 pr, true⟩, ⟨3, .li .i64 pc, true⟩] = active11F fuel q n m n1 n2 x1 x2 x3 r c pi pr pc (fun z0 z1 z2 z3 z4 z5 z6 z7 z8 z9 z10 z11 z12 z13 z14 z15 z16 => some (.s (.slice none 0 0), [some ⟨100, .agg [.s (.int .i64 z0), .lt (.pair (.int .i64) (.sl (.int .u64))) z1, .sl 1 1 z2 z3, .sl 2 1 z4 z5, .sl 3 1 z6 z7, .sl 4 1 z8 z9, .sl 5 1 z10 z11, .s (.slice none 0 0)], true⟩, some ⟨3, .li .i64 z12, true⟩, some ⟨3, .li .i64 z13, true⟩, some ⟨3, .li .i64 z14, true⟩, some ⟨3, .li .i64 z15, true⟩, some ⟨3, .li .i64 z16, true⟩])) := by
  unfold active11F
  exact (active11F_s1_eq fuel  q n1 r n m n2 x1 x2 x3 c pi pr pc)
theorem active11_fact (q : Int) (n : Int) (m : List (Int × List Int)) (n1 : Nat) (n2 : Nat) (x1 : Nat) (x2 : Nat) (x3 : Nat) (r : List Int) (c : List Int) (pi : List Int) (pr : List Int) (pc : List Int) (hg : (actOk n m r c q && decide (n1 = r.length) && decide (n2 = c.length)) = true) : Fact Tryd.prog gTab 57 [.ptr 0 8 0 0, .s (.int .i64 q)] [⟨100, .agg [.s (.int .i64 n), .lt (.pair (.int .i64) (.sl (.int .u64))) m, .sl 1 1 0 n1, .sl 2 1 0 n2, .sl 3 1 0 x1, .sl 4 1 0 x2, .sl 5 1 0 x3, .s (.slice none 0 0)], true⟩, ⟨3, .li .i64 r, true⟩, ⟨3, .li .i64 c, true⟩, ⟨3, .li .i64 pi, true⟩, ⟨3, .li .i64 pr, true⟩, ⟨3, .li .i64 pc, true⟩] (.li .i64 (actS m r c q), [some ⟨100, .agg [.s (.int .i64 n), .lt (.pair (.int .i64) (.sl (.int .u64))) m, .sl 1 1 0 n1, .sl 2 1 0 n2, .sl 3 1 0 x1, .sl 4 1 0 x2, .sl 5 1 0 x3, .s (.slice none 0 0)], true⟩, some ⟨3, .li .i64 r, true⟩, some ⟨3, .li .i64 c, true⟩, some ⟨3, .li .i64 pi, true⟩, some ⟨3, .li .i64 pr, true⟩, some ⟨3, .li .i64 pc, true⟩]) := by
  simp only [Bool.and_eq_true, decide_eq_true_eq] at hg
  obtain ⟨⟨hA, h1⟩, h2⟩ := hg
  obtain ⟨hok, hm, hr, hc, q0, q1⟩ := actOk_iff.1 hA
  obtain ⟨j, rfl⟩ : ∃ j : Nat, q = (j : Int) := ⟨q.toNat, by omega⟩
  have hjm : j < m.length := by omega
  have hjr : j < r.length := by omega
  obtain ⟨hn64, hml, hrow⟩ := mrt_iff.1 hm
  have hmem := List.getElem_mem hjm
  obtain ⟨g1, g2⟩ := hrow _ hmem
  have hw := okM_iff.1 hok _ hmem
  have eb : below (j : Int) n1 = some j := by rw [below_of (by omega) (by omega)]; rfl
  have er : r[0 + j]? = some r[j] := by rw [Nat.zero_add]; exact List.getElem?_eq_getElem hjr
  have em : ix m (j : Int) = some m[j] := (ix_nat m j).trans (List.getElem?_eq_getElem hjm)
  have es : actS m r c (j : Int) = if r[j] = 1 then [] else keepC c (plS (m[j]).2) := by
    rw [actS_eq]; unfold actI
    rw [Int.toNat_natCast, List.getD_eq_getElem?_getD, List.getElem?_eq_getElem hjr, List.getD_eq_getElem?_getD, List.getElem?_eq_getElem hjm]
    rfl
  obtain ⟨p1, p2⟩ := plc_le64 hw g2 (by omega)
  have hd : delOk c (plS (m[j]).2) = true := delOk_iff.2 ⟨by omega, fun i hi => by have := p2 i hi; omega⟩
  rw [es]
  by_cases hc1 : r[j] = 1
  · rw [if_pos hc1]
    refine Fact.out (v := .s (.slice none 0 0)) ?_ (fun _ _ _ x h => RV_nil_li h)
    refine callN_fact hN hM T_active10_ok (n := 0) (mode := mode11) ?_
    rw [active11F_eq]
    unfold active11F active11F_s1
    rw [bnd_of eb, bnd_of er, br_if, if_pos (by simp [hc1])]
  · rw [if_neg hc1]
    by_cases hp : (plS (m[j]).2).length = 0
    · rw [List.eq_nil_of_length_eq_zero hp, keep_nil]
      refine Fact.out (v := .s (.slice none 0 0)) ?_ (fun _ _ _ x h => RV_nil_li h)
      refine callN_fact hN hM T_active10_ok (n := 0) (mode := mode11) ?_
      rw [active11F_eq]
      unfold active11F active11F_s1
      rw [bnd_of eb, bnd_of er, br_if, if_neg (by simp [hc1]), bnd_of em, grd_of (by rw [hw, g2, hp]; rfl)]
    · refine callN_fact hN hM T_PlacesOwn_1_ok (n := 0) (mode := mode11) ?_
      rw [actO11F_eq]
      unfold actO11F actO11F_s1
      rw [bnd_of eb, bnd_of er, br_if, if_neg (by simp [hc1]), bnd_of em, grd_of (by rw [hw, g2]; simp; omega), grd_of (by rw [hd]; simp; omega), List.drop_zero, List.take_append_of_le_length (Nat.le_refl _), List.take_length]
noncomputable def active11_ent : List V → List Blk → Option (Bool × Out)
  | [.ptr 0 8 0 0, .s (.int .i64 q)], [⟨100, .agg [.s (.int .i64 n), .lt (.pair (.int .i64) (.sl (.int .u64))) m, .sl 1 1 0 n1, .sl 2 1 0 n2, .sl 3 1 0 x1, .sl 4 1 0 x2, .sl 5 1 0 x3, .s (.slice none 0 0)], true⟩, ⟨3, .li .i64 r, true⟩, ⟨3, .li .i64 c, true⟩, ⟨3, .li .i64 pi, true⟩, ⟨3, .li .i64 pr, true⟩, ⟨3, .li .i64 pc, true⟩] => some ((actOk n m r c q && decide (n1 = r.length) && decide (n2 = c.length)), (.li .i64 (actS m r c q), [some ⟨100, .agg [.s (.int .i64 n), .lt (.pair (.int .i64) (.sl (.int .u64))) m, .sl 1 1 0 n1, .sl 2 1 0 n2, .sl 3 1 0 x1, .sl 4 1 0 x2, .sl 5 1 0 x3, .s (.slice none 0 0)], true⟩, some ⟨3, .li .i64 r, true⟩, some ⟨3, .li .i64 c, true⟩, some ⟨3, .li .i64 pi, true⟩, some ⟨3, .li .i64 pr, true⟩, some ⟨3, .li .i64 pc, true⟩]))
  | _, _ => none
theorem active11_ok : ∀ args bs out, active11_ent args bs = some (true, out) → Fact Tryd.prog gTab 57 args bs out := by
  intro args bs out h
  unfold active11_ent at h
  split at h
  · rename_i q n m n1 n2 x1 x2 x3 r c pi pr pc
    simp only [Option.some.injEq, Prod.mk.injEq] at h
    obtain ⟨hg, rfl⟩ := h
    exact active11_fact q n m n1 n2 x1 x2 x3 r c pi pr pc hg
  · cases h
noncomputable def T_active11 : Tbl := Tbl.cons 57 active11_ent T_active10
theorem T_active11_ok : CallOk Tryd.prog gTab T_active11 := cons_ok T_active10_ok active11_ok
end Go.Proofs.YtfpdcfgjhkiklaaDoor
