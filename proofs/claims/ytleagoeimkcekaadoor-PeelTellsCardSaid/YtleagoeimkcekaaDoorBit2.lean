/- Counts, first places, the xor of rows: what each function tells. -/
import Derived.Test.YtleagoeimkcekaaDoorPmTab
import Derived.KernelRfl
import Derived.Test.YtleagoeimkcekaaDoorProg
import Derived.Test.YtleagoeimkcekaaDoorCBlk
set_option autoImplicit false
set_option maxRecDepth 100000
set_option maxHeartbeats 4000000
set_option linter.unusedVariables false
set_option linter.unusedSimpArgs false
namespace Go.Proofs.YtleagoeimkcekaaDoor
open Go Go.PM Go.Proofs Go.Shelf Go.PM.Row Go.PM.Bits Go.PM.Bit Go.PM.Blk
def mode6 : FuncId → Nat := fun f => bif Nat.beq f 179 then 2 else 0
/-! Counts, the other's bits, first places. -/
def popI (x : Int) : Int := ((Pop.cnt 64 x.toNat : Nat) : Int)
noncomputable def popS : Int → Int := Classical.choose (⟨popI, rfl⟩ : ∃ f, f = popI)
theorem popS_eq : popS = popI := Classical.choose_spec (⟨popI, rfl⟩ : ∃ f, f = popI)
noncomputable def xorEI (n : Int) (a : List Int) (m : Int) (b : List Int) : Int := if rtS n a = true ∧ rtS m b = true then (if n = m then 0 else 2) else 1
noncomputable def xorE : Int → List Int → Int → List Int → Int := Classical.choose (⟨xorEI, rfl⟩ : ∃ f, f = xorEI)
theorem xorE_eq : xorE = xorEI := Classical.choose_spec (⟨xorEI, rfl⟩ : ∃ f, f = xorEI)
noncomputable def xorNI (n : Int) (a : List Int) (m : Int) (b : List Int) : Int := if xorE n a m b = 0 then n else 0
noncomputable def xorN : Int → List Int → Int → List Int → Int := Classical.choose (⟨xorNI, rfl⟩ : ∃ f, f = xorNI)
theorem xorN_eq : xorN = xorNI := Classical.choose_spec (⟨xorNI, rfl⟩ : ∃ f, f = xorNI)
noncomputable def xorWI (n : Int) (a : List Int) (m : Int) (b : List Int) : List Int := if xorE n a m b = 0 then a.zipWith (fun x y => xorI .u64 x y) b else []
noncomputable def xorW : Int → List Int → Int → List Int → List Int := Classical.choose (⟨xorWI, rfl⟩ : ∃ f, f = xorWI)
theorem xorW_eq : xorW = xorWI := Classical.choose_spec (⟨xorWI, rfl⟩ : ∃ f, f = xorWI)
noncomputable def fstI (n : Int) (ws : List Int) : Int := if rtS n ws = true then (plS ws).headD 0 else 0
noncomputable def fstS : Int → List Int → Int := Classical.choose (⟨fstI, rfl⟩ : ∃ f, f = fstI)
theorem fstS_eq : fstS = fstI := Classical.choose_spec (⟨fstI, rfl⟩ : ∃ f, f = fstI)
noncomputable def fstEI (n : Int) (ws : List Int) : Int := if rtS n ws = true then (if (plS ws).length = 0 then 4 else 0) else 1
noncomputable def fstE : Int → List Int → Int := Classical.choose (⟨fstEI, rfl⟩ : ∃ f, f = fstEI)
theorem fstE_eq : fstE = fstEI := Classical.choose_spec (⟨fstEI, rfl⟩ : ∃ f, f = fstEI)
def plcRI (n : Int) (ws : List Int) : List Int := plc (val ws) n.toNat
noncomputable def plcR : Int → List Int → List Int := Classical.choose (⟨plcRI, rfl⟩ : ∃ f, f = plcRI)
theorem plcR_eq : plcR = plcRI := Classical.choose_spec (⟨plcRI, rfl⟩ : ∃ f, f = plcRI)
theorem plc_length (v n : Nat) : (plc v n).length = Pop.cnt n v := by
  induction n with
  | zero => simp [plc, Pop.cnt]
  | succ n ih =>
    rw [plc_succ, List.length_append, ih, Pop.cnt_snoc]
    by_cases h : v.testBit n = true
    · rw [if_pos h, if_pos h]; rfl
    · rw [if_neg h, if_neg h]; rfl
theorem plc_head {v n : Nat} (h : plc v n ≠ []) : 0 ≤ (plc v n).headD 0 ∧ (plc v n).headD 0 < (n : Int) := by
  cases hl : plc v n with
  | nil => exact absurd hl h
  | cons x t =>
    obtain ⟨i, h1, h2, rfl⟩ := (mem_plc v n x).1 (by rw [hl]; exact List.mem_cons_self)
    show (0 : Int) ≤ (i : Int) ∧ (i : Int) < (n : Int)
    omega
theorem pl_val {n : Int} {ws : List Int} (hok : okW ws = true) (h : rtS n ws = true) : plS ws = plcR n ws := by rw [pl_plc hok h, plcR_eq]; rfl
theorem rt_lens {n : Int} {ws : List Int} (h : rtS n ws = true) : ws.length = nw n := (rtS_iff.1 h).2.1
theorem rt_le {n : Int} {ws : List Int} (h : rtS n ws = true) : ws.length ≤ 8 := by rw [rt_lens h]; exact nw_le (rtS_iff.1 h).1.2
theorem rt_lt {n : Int} {ws : List Int} (h : rtS n ws = true) : val ws < 2 ^ n.toNat := (rtS_iff.1 h).2.2
theorem zw_getD {a b : List Int} (hl : a.length = b.length) {j : Nat} (hj : j < a.length) : (a.zipWith (fun x y => xorI .u64 x y) b).getD j 0 = xorI .u64 (a.getD j 0) (b.getD j 0) := by
  rw [List.getD_eq_getElem?_getD, List.getElem?_zipWith, List.getElem?_eq_getElem hj, List.getElem?_eq_getElem (by omega), List.getD_eq_getElem?_getD, List.getD_eq_getElem?_getD, List.getElem?_eq_getElem hj, List.getElem?_eq_getElem (by omega)]
  rfl
theorem xorE_ok {n m : Int} {a b : List Int} (h : rtS n a = true) (g : rtS m b = true) (e : n = m) : xorE n a m b = 0 := by rw [xorE_eq]; unfold xorEI; rw [if_pos ⟨h, g⟩, if_pos e]
/-- The xor of two rows that may be. -/
theorem xor_val {n m : Int} {a b : List Int} (ha : okW a = true) (hb : okW b = true) (h : rtS n a = true) (g : rtS m b = true) (e : n = m) : Ok (xorW n a m b) ∧ val (xorW n a m b) = val a ^^^ val b ∧ (xorW n a m b).length = nw n := by
  have hl : a.length = b.length := by rw [rt_lens h, rt_lens g, e]
  have hz : (a.zipWith (fun x y => xorI .u64 x y) b).length = a.length := by rw [List.length_zipWith]; omega
  rw [xorW_eq]; unfold xorWI
  rw [if_pos (xorE_ok h g e)]
  have := val_zip (f := fun x y => x ^^^ y) (g := fun x y => x ^^ y) (fun x y i => Nat.testBit_xor ..) (fun x y hx hy => Nat.xor_lt_two_pow hx hy) rfl (okW_iff.1 ha) (okW_iff.1 hb) hl _ hz (fun j hj => by
    rw [zw_getD hl hj]
    have h1 := (okW_iff.1 ha).getD j
    have h2 := (okW_iff.1 hb).getD j
    exact xorI_nat h1.1 h1.2 h2.1 h2.2)
  exact ⟨this.1, this.2, by rw [hz]; exact rt_lens h⟩
theorem xor_rt {n m : Int} {a b : List Int} (ha : okW a = true) (hb : okW b = true) (h : rtS n a = true) (g : rtS m b = true) (e : n = m) : okW (xorW n a m b) = true ∧ rtS n (xorW n a m b) = true ∧ xorN n a m b = n := by
  obtain ⟨h1, h2, h3⟩ := xor_val ha hb h g e
  subst e
  refine ⟨okW_iff.2 h1, rtS_iff.2 ⟨(rtS_iff.1 h).1, h3, ?_⟩, ?_⟩
  · rw [h2]; exact Nat.xor_lt_two_pow (rt_lt h) (rt_lt g)
  · rw [xorN_eq]; unfold xorNI; rw [if_pos (xorE_ok h g rfl)]
/-! math/bits.OnesCount64 -/
noncomputable def popF_s1 {R : Type} (x : Int) (c0 : Int → Option R) : Option R :=
  bnd (shfI .shr .u64 x 1) fun v1 =>
  bnd (shfI .shr .u64 (IntKind.u64.wrap ((andI .u64 v1 6148914691236517205) + (andI .u64 x 6148914691236517205))) 2) fun v2 =>
  bnd (shfI .shr .u64 (IntKind.u64.wrap ((andI .u64 v2 3689348814741910323) + (andI .u64 (IntKind.u64.wrap ((andI .u64 v1 6148914691236517205) + (andI .u64 x 6148914691236517205))) 3689348814741910323))) 4) fun v3 =>
  bnd (shfI .shr .u64 (andI .u64 (IntKind.u64.wrap (v3 + (IntKind.u64.wrap ((andI .u64 v2 3689348814741910323) + (andI .u64 (IntKind.u64.wrap ((andI .u64 v1 6148914691236517205) + (andI .u64 x 6148914691236517205))) 3689348814741910323))))) 1085102592571150095) 8) fun v4 =>
  bnd (shfI .shr .u64 (IntKind.u64.wrap ((andI .u64 (IntKind.u64.wrap (v3 + (IntKind.u64.wrap ((andI .u64 v2 3689348814741910323) + (andI .u64 (IntKind.u64.wrap ((andI .u64 v1 6148914691236517205) + (andI .u64 x 6148914691236517205))) 3689348814741910323))))) 1085102592571150095) + v4)) 16) fun v5 =>
  bnd (shfI .shr .u64 (IntKind.u64.wrap ((IntKind.u64.wrap ((andI .u64 (IntKind.u64.wrap (v3 + (IntKind.u64.wrap ((andI .u64 v2 3689348814741910323) + (andI .u64 (IntKind.u64.wrap ((andI .u64 v1 6148914691236517205) + (andI .u64 x 6148914691236517205))) 3689348814741910323))))) 1085102592571150095) + v4)) + v5)) 32) fun v6 =>
  c0 (andI .i64 (IntKind.i64.wrap (IntKind.u64.wrap ((IntKind.u64.wrap ((IntKind.u64.wrap ((andI .u64 (IntKind.u64.wrap (v3 + (IntKind.u64.wrap ((andI .u64 v2 3689348814741910323) + (andI .u64 (IntKind.u64.wrap ((andI .u64 v1 6148914691236517205) + (andI .u64 x 6148914691236517205))) 3689348814741910323))))) 1085102592571150095) + v4)) + v5)) + v6))) 127)
theorem popF_s1_eq (fuel : Nat)  (x : Int) : callN Tryd.prog mode6 T_refTexts fuel 145 [.s (.int .u64 x)] [] = popF_s1 x (fun (a7 : Int) => some (.s (.int .i64 a7), [])) := by kernel_rfl
noncomputable def popF {R : Type} (fuel : Nat) (x : Int) (r0 : Int → Option R) : Option R :=
  (popF_s1 x (fun (a7 : Int) => r0 a7))
theorem popF_eq (fuel : Nat) (x : Int) : callN Tryd.prog mode6 T_refTexts fuel 145 [.s (.int .u64 x)] [] = popF fuel x (fun (z0 : Int) => some (.s (.int .i64 z0), [])) := by
  unfold popF
  exact (popF_s1_eq fuel  x)
theorem mk85 : (6148914691236517205 : Int) = ((Pop.mk 85 8 : Nat) : Int) := by decide +kernel
theorem mk51 : (3689348814741910323 : Int) = ((Pop.mk 51 8 : Nat) : Int) := by decide +kernel
theorem mk15 : (1085102592571150095 : Int) = ((Pop.mk 15 8 : Nat) : Int) := by decide +kernel
theorem mk85n : Pop.mk 85 8 = 6148914691236517205 := by decide +kernel
theorem mk51n : Pop.mk 51 8 = 3689348814741910323 := by decide +kernel
theorem mk15n : Pop.mk 15 8 = 1085102592571150095 := by decide +kernel
theorem and_u {a b : Nat} (ha : a < 18446744073709551616) (hb : b < 18446744073709551616) : andI .u64 (a : Int) (b : Int) = ((a &&& b : Nat) : Int) := by
  rw [andI_nat (by omega) (by omega) (by omega) (by omega), Int.toNat_natCast, Int.toNat_natCast]
theorem and_127 {c : Nat} (hc : c < 9223372036854775808) : andI .i64 (c : Int) 127 = ((c % 128 : Nat) : Int) := by
  have h : andI .i64 (c : Int) 127 = IntKind.i64.wrap ((BitVec.ofInt 64 (c : Int) &&& BitVec.ofInt 64 127).toNat : Int) := rfl
  have e1 : (BitVec.ofInt 64 (c : Int)).toNat = c := by rw [ofInt_nat (by omega) (by omega), Int.toNat_natCast]
  have e2 : (BitVec.ofInt 64 127).toNat = 127 := rfl
  have hm := Nat.and_two_pow_sub_one_eq_mod c 7
  rw [show (2 ^ 7 - 1 : Nat) = 127 from rfl, show (2 ^ 7 : Nat) = 128 from rfl] at hm
  rw [h, BitVec.toNat_and, e1, e2, hm]
  exact wrap_i64 (by omega) (by omega)
theorem pop_fact (x : Int) (hg : (decide (0 ≤ x) && decide (x < 18446744073709551616)) = true) : Fact Tryd.prog gTab 145 [.s (.int .u64 x)] [] (.s (.int .i64 (popS x)), []) := by
  simp only [Bool.and_eq_true, decide_eq_true_eq] at hg
  obtain ⟨x, rfl⟩ : ∃ m : Nat, x = (m : Int) := ⟨x.toNat, by omega⟩
  have hx : x < 18446744073709551616 := by omega
  refine callN_fact hN hM T_refTexts_ok (n := 0) (mode := mode6) ?_
  rw [popF_eq]
  unfold popF popF_s1
  obtain ⟨a, b, c, ha, hb, hc, hc1, hc2⟩ := Pop.full_sum x hx
  have l1 : (x / 2 &&& Pop.mk 85 8) ≤ 6148914691236517205 := Nat.le_trans Nat.and_le_right (Nat.le_of_eq mk85n)
  have l2 : (x &&& Pop.mk 85 8) ≤ 6148914691236517205 := Nat.le_trans Nat.and_le_right (Nat.le_of_eq mk85n)
  have l3 : (Pop.s1 8 x / 4 &&& Pop.mk 51 8) ≤ 3689348814741910323 := Nat.le_trans Nat.and_le_right (Nat.le_of_eq mk51n)
  have l4 : (Pop.s1 8 x &&& Pop.mk 51 8) ≤ 3689348814741910323 := Nat.le_trans Nat.and_le_right (Nat.le_of_eq mk51n)
  have l5 : Pop.full 8 x ≤ 1085102592571150095 := Nat.le_trans Nat.and_le_right (Nat.le_of_eq mk15n)
  have b1 : Pop.s1 8 x < 18446744073709551616 := by unfold Pop.s1; omega
  have b2 : Pop.s2 8 (Pop.s1 8 x) ≤ 7378697629483820646 := by unfold Pop.s2; omega
  have d1 : shfI .shr .u64 ((x : Nat) : Int) 1 = some ((x / 2 : Nat) : Int) := by rw [shr_u64 (c := 2) (by decide) (by decide)]; congr 1
  have e1 : andI .u64 ((x / 2 : Nat) : Int) 6148914691236517205 = ((x / 2 &&& Pop.mk 85 8 : Nat) : Int) := by
    rw [mk85]; exact and_u (by omega) (by rw [mk85n]; omega)
  have e2 : andI .u64 (x : Int) 6148914691236517205 = ((x &&& Pop.mk 85 8 : Nat) : Int) := by
    rw [mk85]; exact and_u hx (by rw [mk85n]; omega)
  have e3 : IntKind.u64.wrap (((x / 2 &&& Pop.mk 85 8 : Nat) : Int) + ((x &&& Pop.mk 85 8 : Nat) : Int)) = ((Pop.s1 8 x : Nat) : Int) := by
    rw [show ((x / 2 &&& Pop.mk 85 8 : Nat) : Int) + ((x &&& Pop.mk 85 8 : Nat) : Int) = ((Pop.s1 8 x : Nat) : Int) by unfold Pop.s1; norm_cast]; exact wrap_nat b1
  rw [bnd_of d1, e1, e2, e3]
  generalize hy : Pop.s1 8 x = y at *
  have d2 : shfI .shr .u64 ((y : Nat) : Int) 2 = some ((y / 4 : Nat) : Int) := by rw [shr_u64 (c := 4) (by decide) (by decide)]; congr 1
  have e4 : andI .u64 ((y / 4 : Nat) : Int) 3689348814741910323 = ((y / 4 &&& Pop.mk 51 8 : Nat) : Int) := by
    rw [mk51]; exact and_u (by omega) (by rw [mk51n]; omega)
  have e5 : andI .u64 (y : Int) 3689348814741910323 = ((y &&& Pop.mk 51 8 : Nat) : Int) := by
    rw [mk51]; exact and_u b1 (by rw [mk51n]; omega)
  have e6 : IntKind.u64.wrap (((y / 4 &&& Pop.mk 51 8 : Nat) : Int) + ((y &&& Pop.mk 51 8 : Nat) : Int)) = ((Pop.s2 8 y : Nat) : Int) := by
    rw [show ((y / 4 &&& Pop.mk 51 8 : Nat) : Int) + ((y &&& Pop.mk 51 8 : Nat) : Int) = ((Pop.s2 8 y : Nat) : Int) by unfold Pop.s2; norm_cast]; exact wrap_nat (by omega)
  rw [bnd_of d2, e4, e5, e6]
  generalize hz : Pop.s2 8 y = z at *
  have d3 : shfI .shr .u64 ((z : Nat) : Int) 4 = some ((z / 16 : Nat) : Int) := by rw [shr_u64 (c := 16) (by decide) (by decide)]; congr 1
  have e7 : IntKind.u64.wrap (((z / 16 : Nat) : Int) + (z : Int)) = ((z / 16 + z : Nat) : Int) := by
    rw [show ((z / 16 : Nat) : Int) + (z : Int) = ((z / 16 + z : Nat) : Int) by norm_cast]; exact wrap_nat (by omega)
  have hf : Pop.full 8 x = (z / 16 + z) &&& Pop.mk 15 8 := by unfold Pop.full Pop.s3; rw [hy, hz]
  have e8 : andI .u64 ((z / 16 + z : Nat) : Int) 1085102592571150095 = ((Pop.full 8 x : Nat) : Int) := by
    rw [mk15, hf]; exact and_u (by omega) (by rw [mk15n]; omega)
  rw [bnd_of d3, e7, e8]
  generalize Pop.full 8 x = f at *
  have d4 : shfI .shr .u64 ((f : Nat) : Int) 8 = some ((f / 256 : Nat) : Int) := by rw [shr_u64 (c := 256) (by decide) (by decide)]; congr 1
  have e9 : IntKind.u64.wrap ((f : Int) + ((f / 256 : Nat) : Int)) = (a : Int) := by
    rw [show (f : Int) + ((f / 256 : Nat) : Int) = (a : Int) by rw [ha]; omega]; exact wrap_nat (by omega)
  rw [bnd_of d4, e9]
  have d5 : shfI .shr .u64 ((a : Nat) : Int) 16 = some ((a / 65536 : Nat) : Int) := by rw [shr_u64 (c := 65536) (by decide) (by decide +kernel)]; congr 1
  have e10 : IntKind.u64.wrap ((a : Int) + ((a / 65536 : Nat) : Int)) = (b : Int) := by
    rw [show (a : Int) + ((a / 65536 : Nat) : Int) = (b : Int) by rw [hb]; omega]; exact wrap_nat (by omega)
  rw [bnd_of d5, e10]
  have d6 : shfI .shr .u64 ((b : Nat) : Int) 32 = some ((b / 4294967296 : Nat) : Int) := by rw [shr_u64 (c := 4294967296) (by decide) (by decide +kernel)]; congr 1
  have e11 : IntKind.u64.wrap ((b : Int) + ((b / 4294967296 : Nat) : Int)) = (c : Int) := by
    rw [show (b : Int) + ((b / 4294967296 : Nat) : Int) = (c : Int) by rw [hc]; omega]; exact wrap_nat (by omega)
  rw [bnd_of d6, e11, wrap_i64 (by omega) (by omega), and_127 (by omega), hc2, popS_eq]
  rfl
noncomputable def pop_ent : List V → List Blk → Option (Bool × Out)
  | [.s (.int .u64 x)], [] => some ((decide (0 ≤ x) && decide (x < 18446744073709551616)), (.s (.int .i64 (popS x)), []))
  | _, _ => none
theorem pop_ok : ∀ args bs out, pop_ent args bs = some (true, out) → Fact Tryd.prog gTab 145 args bs out := by
  intro args bs out h
  unfold pop_ent at h
  split at h
  · rename_i x
    simp only [Option.some.injEq, Prod.mk.injEq] at h
    obtain ⟨hg, rfl⟩ := h
    exact pop_fact x hg
  · cases h
noncomputable def T_pop : Tbl := Tbl.cons 145 pop_ent T_refTexts
theorem T_pop_ok : CallOk Tryd.prog gTab T_pop := cons_ok T_refTexts_ok pop_ok
/-! downpour/bitrow.Count -/
noncomputable def CountF_s2 {R : Type} (w6 : Int) (w7 : Int) (ws : List Int) (w5 : Int) (c0 : Int → Int → Int → Option R) (c1 : Int → Option R) : Option R :=
  br (decide (w6 < w7))
    (bnd (ix ws w6) fun e10 =>
    grd (decide (0 ≤ e10) && decide (e10 < 18446744073709551616)) <|
    c0 (IntKind.i64.wrap (w5 + (popS e10))) w7 (IntKind.i64.wrap (w6 + 1)))
    (c1 w5)
theorem CountF_s2_eq (fuel : Nat) (k : Nat) (K : Ex → St → Option Out) (w6 : Int) (w7 : Int) (ws : List Int) (w5 : Int) : lpN (sub (bodyOf Tryd.prog 95) [1, 1, 1, 0, 1, 0, 0]) (fnX Tryd.prog mode6 T_pop fuel 23 0) 4194332 [2, 3, 4, 11, 12, 13] (k + 1) ⟨[(2, .s (.int .i64 0)), (3, .s (.int .i64 0)), (4, .s (.int .i64 w5)), (11, .li .u64 ws), (12, .s (.int .i64 w7)), (13, .s (.int .i64 w6))], [], 0, none⟩ K = CountF_s2 w6 w7 ws w5 (fun (a11 : Int) (a12 : Int) (a13 : Int) => lpN (sub (bodyOf Tryd.prog 95) [1, 1, 1, 0, 1, 0, 0]) (fnX Tryd.prog mode6 T_pop fuel 23 0) 4194332 [2, 3, 4, 11, 12, 13] k ⟨[(2, .s (.int .i64 0)), (3, .s (.int .i64 0)), (4, .s (.int .i64 a11)), (11, .li .u64 ws), (12, .s (.int .i64 a12)), (13, .s (.int .i64 a13))], [], 0, none⟩ K) (fun (a14 : Int) => K (.exit 0) ⟨[(2, .s (.int .i64 0)), (3, .s (.int .i64 0)), (4, .s (.int .i64 a14))], [], 0, none⟩) := by kernel_rfl
noncomputable def CountF_l1 {R : Type} (fuel : Nat) (ws : List Int) (k0 : Int → Option R) : Nat → Int → Int → Int → Option R
  | 0, _, _, _ => none
  | k + 1, w5, w7, w6 =>
    (CountF_s2 w6 w7 ws w5 (fun (a11 : Int) (a12 : Int) (a13 : Int) => ( CountF_l1 fuel ws k0 k a11 a12 a13 )) (fun (a14 : Int) => k0 a14))
theorem CountF_l1_eq (fuel : Nat) (ws : List Int) (K : Ex → St → Option Out) : ∀ (k : Nat) (w5 : Int) (w7 : Int) (w6 : Int), lpN (sub (bodyOf Tryd.prog 95) [1, 1, 1, 0, 1, 0, 0]) (fnX Tryd.prog mode6 T_pop fuel 23 0) 4194332 [2, 3, 4, 11, 12, 13] k ⟨[(2, .s (.int .i64 0)), (3, .s (.int .i64 0)), (4, .s (.int .i64 w5)), (11, .li .u64 ws), (12, .s (.int .i64 w7)), (13, .s (.int .i64 w6))], [], 0, none⟩ K = CountF_l1 fuel ws (fun (y9 : Int) => K (.exit 0) ⟨[(2, .s (.int .i64 0)), (3, .s (.int .i64 0)), (4, .s (.int .i64 y9))], [], 0, none⟩) k w5 w7 w6
  | 0, _, _, _ => rfl
  | k + 1, w5, w7, w6 => by
    unfold CountF_l1
    exact (CountF_s2_eq fuel k K w6 w7 ws w5).trans (congr (congr (Eq.refl (CountF_s2 (R := Out) w6 w7 ws w5)) (funext fun a11 => funext fun a12 => funext fun a13 => CountF_l1_eq fuel ws K k a11 a12 a13)) (rfl))
noncomputable def CountF_s3 {R : Type} (x18 : Int) (c0 : Int → Int → Option R) : Option R :=
  c0 x18 0
theorem CountF_s3_eq (fuel : Nat)  (x18 : Int) : (kont (fnX Tryd.prog mode6 T_pop fuel 23 0) (bodyOf Tryd.prog 95) [1, 1, 1, 0, 1, 0] 12 (endK Tryd.prog 0 0 95)) (.exit 0) ⟨[(2, .s (.int .i64 0)), (3, .s (.int .i64 0)), (4, .s (.int .i64 x18))], [], 0, none⟩ = CountF_s3 x18 (fun (a19 : Int) (a20 : Int) => some (.tup [.s (.int .i64 a19), .s (.int .i64 a20)], [])) := by kernel_rfl
noncomputable def CountF_s1 {R : Type} (ws : List Int) (n : Int) (c0 : Int → Int → Option R) (c1 : Int → Int → Int → Option R) : Option R :=
  grd (okW ws) <|
  br (!(rtS n ws))
    (c0 0 1)
    (c1 0 ((ws.length : Nat) : Int) 0)
theorem CountF_s1_eq (fuel : Nat)  (ws : List Int) (n : Int) : callN Tryd.prog mode6 T_pop fuel 95 [.agg [.s (.int .i64 n), .li .u64 ws]] [] = CountF_s1 ws n (fun (a1 : Int) (a2 : Int) => some (.tup [.s (.int .i64 a1), .s (.int .i64 a2)], [])) (fun (a15 : Int) (a16 : Int) (a17 : Int) => lpN (sub (bodyOf Tryd.prog 95) [1, 1, 1, 0, 1, 0, 0]) (fnX Tryd.prog mode6 T_pop fuel 23 0) 4194332 [2, 3, 4, 11, 12, 13] fuel ⟨[(2, .s (.int .i64 0)), (3, .s (.int .i64 0)), (4, .s (.int .i64 a15)), (11, .li .u64 ws), (12, .s (.int .i64 a16)), (13, .s (.int .i64 a17))], [], 0, none⟩ (kont (fnX Tryd.prog mode6 T_pop fuel 23 0) (bodyOf Tryd.prog 95) [1, 1, 1, 0, 1, 0] 12 (endK Tryd.prog 0 0 95))) := by kernel_rfl
noncomputable def CountF {R : Type} (fuel : Nat) (n : Int) (ws : List Int) (r0 : Int → Int → Option R) : Option R :=
  (CountF_s1 ws n (fun (a1 : Int) (a2 : Int) => r0 a1 a2) (fun (a15 : Int) (a16 : Int) (a17 : Int) => (CountF_l1 fuel ws (fun (x18 : Int) => (CountF_s3 x18 (fun (a19 : Int) (a20 : Int) => r0 a19 a20))) fuel a15 a16 a17)))
theorem CountF_eq (fuel : Nat) (n : Int) (ws : List Int) : callN Tryd.prog mode6 T_pop fuel 95 [.agg [.s (.int .i64 n), .li .u64 ws]] [] = CountF fuel n ws (fun (z0 : Int) (z1 : Int) => some (.tup [.s (.int .i64 z0), .s (.int .i64 z1)], [])) := by
  unfold CountF
  exact (CountF_s1_eq fuel  ws n).trans (congr (congr (Eq.refl (CountF_s1 (R := Out) ws n)) (rfl)) (funext fun a15 => funext fun a16 => funext fun a17 => (CountF_l1_eq fuel ws (kont (fnX Tryd.prog mode6 T_pop fuel 23 0) (bodyOf Tryd.prog 95) [1, 1, 1, 0, 1, 0] 12 (endK Tryd.prog 0 0 95)) fuel a15 a16 a17).trans (congrFun (congrFun (congrFun (congrFun (congr (Eq.refl (CountF_l1 (R := Out) fuel ws)) (funext fun x18 => (CountF_s3_eq fuel  x18))) fuel) a15) a16) a17)))
theorem word_at {ws : List Int} (hok : Ok ws) {i : Nat} (hi : i < ws.length) : (ws[i]).toNat = val ws / 2 ^ (64 * i) % 2 ^ 64 := by
  have := getD_words ws.length (val ws) i hi
  rw [words_val hok, List.getD_eq_getElem?_getD, List.getElem?_eq_getElem hi] at this
  have h2 : ws[i] = _ := this
  rw [h2, Int.toNat_natCast]
theorem Count_loop {R : Type} (fuel : Nat) (ws : List Int) (hok : okW ws = true) (hx : ws.length ≤ 8) (k0 : Int → Option R) : ∀ (k i : Nat), i ≤ ws.length → ws.length < i + k → CountF_l1 fuel ws k0 k ((Pop.cnt (64 * i) (val ws) : Nat) : Int) (ws.length : Int) (i : Int) = k0 ((Pop.cnt (64 * ws.length) (val ws) : Nat) : Int)
  | 0, i, h1, h2 => by omega
  | k + 1, i, h1, h2 => by
    unfold CountF_l1 CountF_s2
    rw [br_if]
    by_cases hc : i < ws.length
    · have hw := okW_iff.1 hok _ (List.getElem_mem hc)
      have e : popS ws[i] = ((Pop.cnt 64 (val ws / 2 ^ (64 * i)) : Nat) : Int) := by
        rw [popS_eq]; unfold popI; rw [word_at (okW_iff.1 hok) hc, Pop.cnt_mod]
      have c1 := Pop.cnt_le (64 * i) (val ws)
      have c2 := Pop.cnt_le 64 (val ws / 2 ^ (64 * i))
      have e2 : Pop.cnt (64 * i) (val ws) + Pop.cnt 64 (val ws / 2 ^ (64 * i)) = Pop.cnt (64 * (i + 1)) (val ws) := by rw [Nat.mul_add, Nat.mul_one, Pop.cnt_add]
      rw [if_pos (by simpa using hc), bnd_of ((ix_nat ws i).trans (List.getElem?_eq_getElem hc)), grd_of (by simp; omega), e, wrap_i64 (by omega) (by omega), wrap_i64 (by omega) (by omega), show (i : Int) + 1 = ((i + 1 : Nat) : Int) by omega, show ((Pop.cnt (64 * i) (val ws) : Nat) : Int) + ((Pop.cnt 64 (val ws / 2 ^ (64 * i)) : Nat) : Int) = ((Pop.cnt (64 * (i + 1)) (val ws) : Nat) : Int) by omega]
      exact Count_loop fuel ws hok hx k0 k (i + 1) (by omega) (by omega)
    · have e : i = ws.length := by omega
      subst e
      rw [if_neg (by simp)]
theorem Count_fact (n : Int) (ws : List Int) (hg : (okW ws) = true) : Fact Tryd.prog gTab 95 [.agg [.s (.int .i64 n), .li .u64 ws]] [] (.tup [.s (.int .i64 (if rtS n ws = true then (((plS ws).length : Nat) : Int) else 0)), .s (.int .i64 (if rtS n ws = true then 0 else 1))], []) := by
  refine callN_fact hN hM T_pop_ok (n := 10) (mode := mode6) ?_
  rw [CountF_eq]
  unfold CountF CountF_s1
  rw [grd_of hg, br_if]
  by_cases h : rtS n ws = true
  · have hl := rt_le h
    obtain ⟨⟨h0, h1⟩, h2, h3⟩ := rtS_iff.1 h
    have hw := nw_cast h0
    rw [if_neg (by simp [h]), if_pos h, if_pos h]
    dsimp only
    have e0 : (0 : Int) = ((Pop.cnt (64 * 0) (val ws) : Nat) : Int) := rfl
    have := Count_loop (R := Out) 10 ws hg hl
    refine (this _ 10 0 (by omega) (by omega)).trans ?_
    unfold CountF_s3
    rw [pl_plc hg h, plc_length, Pop.cnt_above h3 (by omega)]
  · rw [if_pos (by simp [h]), if_neg h, if_neg h]
noncomputable def Count_ent : List V → List Blk → Option (Bool × Out)
  | [.agg [.s (.int .i64 n), w0]], [] => (asSl (.int .u64) w0).bind fun ws => some ((okW ws), (.tup [.s (.int .i64 (if rtS n ws = true then (((plS ws).length : Nat) : Int) else 0)), .s (.int .i64 (if rtS n ws = true then 0 else 1))], []))
  | _, _ => none
theorem Count_ok : ∀ args bs out, Count_ent args bs = some (true, out) → Fact Tryd.prog gTab 95 args bs out := by
  intro args bs out h
  unfold Count_ent at h
  split at h
  · rename_i n w0
    obtain ⟨ws, h_ws, h⟩ := Option.bind_eq_some_iff.1 h
    simp only [Option.some.injEq, Prod.mk.injEq] at h
    obtain ⟨hg, rfl⟩ := h
    exact (Count_fact n ws hg).args (fun _ _ _ => fun _ h => RVs_two (fun _ h => RV_agg_two (fun _ h => RVs_two (fun _ h => h) (fun _ h => RVs_two (fun _ h => RV_li h_ws h) (fun _ h => h) h) h) h) (fun _ h => h) h)
  · cases h
noncomputable def T_Count : Tbl := Tbl.cons 95 Count_ent T_pop
theorem T_Count_ok : CallOk Tryd.prog gTab T_Count := cons_ok T_pop_ok Count_ok
/-! downpour/bitrow.Xor$1 -/
noncomputable def xor1F_s1 {R : Type} (x : Int) (y : Int) (c0 : Int → Option R) : Option R :=
  c0 (xorI .u64 x y)
theorem xor1F_s1_eq (fuel : Nat)  (x : Int) (y : Int) : callN Tryd.prog mode6 T_Count fuel 153 [.s (.int .u64 x), .s (.int .u64 y)] [] = xor1F_s1 x y (fun (a1 : Int) => some (.s (.int .u64 a1), [])) := by kernel_rfl
noncomputable def xor1F {R : Type} (fuel : Nat) (x : Int) (y : Int) (r0 : Int → Option R) : Option R :=
  (xor1F_s1 x y (fun (a1 : Int) => r0 a1))
theorem xor1F_eq (fuel : Nat) (x : Int) (y : Int) : callN Tryd.prog mode6 T_Count fuel 153 [.s (.int .u64 x), .s (.int .u64 y)] [] = xor1F fuel x y (fun (z0 : Int) => some (.s (.int .u64 z0), [])) := by
  unfold xor1F
  exact (xor1F_s1_eq fuel  x y)
theorem xor1_fact (x : Int) (y : Int) : Fact Tryd.prog gTab 153 [.s (.int .u64 x), .s (.int .u64 y)] [] (.s (.int .u64 (xorI .u64 x y)), []) := by
  refine callN_fact hN hM T_Count_ok (n := 0) (mode := mode6) ?_
  rw [xor1F_eq]
  rfl
noncomputable def xor1_ent : List V → List Blk → Option (Bool × Out)
  | [.s (.int .u64 x), .s (.int .u64 y)], [] => some (true, (.s (.int .u64 (xorI .u64 x y)), []))
  | _, _ => none
theorem xor1_ok : ∀ args bs out, xor1_ent args bs = some (true, out) → Fact Tryd.prog gTab 153 args bs out := by
  intro args bs out h
  unfold xor1_ent at h
  split at h
  · rename_i x y
    simp only [Option.some.injEq, Prod.mk.injEq] at h
    obtain ⟨_, rfl⟩ := h
    exact xor1_fact x y
  · cases h
noncomputable def T_xor1 : Tbl := Tbl.cons 153 xor1_ent T_Count
theorem T_xor1_ok : CallOk Tryd.prog gTab T_xor1 := cons_ok T_Count_ok xor1_ok
/-! downpour/bitrow.joined -/
noncomputable def joinXF_s2 {R : Type} (w14 : Int) (w15 : Int) (a : List Int) (b : List Int) (w16 : Nat) (w17 : List Int) (n : Int) (m : Int) (c0 : Int → Int → Nat → List Int → Option R) (c1 : Nat → List Int → Option R) : Option R :=
  br (decide (w14 < w15))
    (bnd (ix a w14) fun e24 =>
    bnd (ix b w14) fun e25 =>
    bnd (below w14 w16) fun j26 =>
    bnd (w17[(0 + j26)]?) fun e27 =>
    c0 w15 (IntKind.i64.wrap (w14 + 1)) w16 (w17.set (0 + j26) (xorI .u64 e24 e25)))
    (c1 w16 w17)
theorem joinXF_s2_eq (fuel : Nat) (k : Nat) (K : Ex → St → Option Out) (w14 : Int) (w15 : Int) (a : List Int) (b : List Int) (w16 : Nat) (w17 : List Int) (n : Int) (m : Int) : lpN (sub (bodyOf Tryd.prog 152) [1, 1, 1, 0, 1, 0, 0]) (fnX Tryd.prog mode6 T_xor1 fuel 54 0) 9007199254741440 [2, 3, 4, 6, 7, 8, 32, 33] (k + 1) ⟨[(2, .fn (.func 153) [] []), (3, .ptr 0 2 0 0), (4, .ptr 1 2 0 0), (6, .ptr 2 2 0 0), (7, .s (.int .i64 0)), (8, .ptr 3 2 0 0), (32, .s (.int .i64 w15)), (33, .s (.int .i64 w14))], [(0, some ⟨29, .agg [.s (.int .i64 n), .li .u64 a], true⟩), (1, some ⟨29, .agg [.s (.int .i64 m), .li .u64 b], true⟩), (2, some ⟨29, .agg [.s (.int .i64 0), .s (.slice none 0 0)], true⟩), (3, some ⟨29, .agg [.s (.int .i64 n), .sl 4 1 0 w16], true⟩), (4, some ⟨22, .li .u64 w17, true⟩)], 5, none⟩ K = joinXF_s2 w14 w15 a b w16 w17 n m (fun (a28 : Int) (a29 : Int) (a30 : Nat) (a31 : List Int) => lpN (sub (bodyOf Tryd.prog 152) [1, 1, 1, 0, 1, 0, 0]) (fnX Tryd.prog mode6 T_xor1 fuel 54 0) 9007199254741440 [2, 3, 4, 6, 7, 8, 32, 33] k ⟨[(2, .fn (.func 153) [] []), (3, .ptr 0 2 0 0), (4, .ptr 1 2 0 0), (6, .ptr 2 2 0 0), (7, .s (.int .i64 0)), (8, .ptr 3 2 0 0), (32, .s (.int .i64 a28)), (33, .s (.int .i64 a29))], [(0, some ⟨29, .agg [.s (.int .i64 n), .li .u64 a], true⟩), (1, some ⟨29, .agg [.s (.int .i64 m), .li .u64 b], true⟩), (2, some ⟨29, .agg [.s (.int .i64 0), .s (.slice none 0 0)], true⟩), (3, some ⟨29, .agg [.s (.int .i64 n), .sl 4 1 0 a30], true⟩), (4, some ⟨22, .li .u64 a31, true⟩)], 5, none⟩ K) (fun (a32 : Nat) (a33 : List Int) => K (.exit 1) ⟨[(6, .ptr 0 2 0 0), (7, .s (.int .i64 0)), (8, .ptr 1 2 0 0)], [(0, some ⟨29, .agg [.s (.int .i64 0), .s (.slice none 0 0)], true⟩), (1, some ⟨29, .agg [.s (.int .i64 n), .sl 2 1 0 a32], true⟩), (2, some ⟨22, .li .u64 a33, true⟩)], 3, none⟩) := by kernel_rfl
noncomputable def joinXF_l1 {R : Type} (fuel : Nat) (n : Int) (a : List Int) (m : Int) (b : List Int) (k0 : Nat → List Int → Option R) : Nat → Int → Int → Nat → List Int → Option R
  | 0, _, _, _, _ => none
  | k + 1, w15, w14, w16, w17 =>
    (joinXF_s2 w14 w15 a b w16 w17 n m (fun (a28 : Int) (a29 : Int) (a30 : Nat) (a31 : List Int) => ( joinXF_l1 fuel n a m b k0 k a28 a29 a30 a31 )) (fun (a32 : Nat) (a33 : List Int) => k0 a32 a33))
theorem joinXF_l1_eq (fuel : Nat) (n : Int) (a : List Int) (m : Int) (b : List Int) (K : Ex → St → Option Out) : ∀ (k : Nat) (w15 : Int) (w14 : Int) (w16 : Nat) (w17 : List Int), lpN (sub (bodyOf Tryd.prog 152) [1, 1, 1, 0, 1, 0, 0]) (fnX Tryd.prog mode6 T_xor1 fuel 54 0) 9007199254741440 [2, 3, 4, 6, 7, 8, 32, 33] k ⟨[(2, .fn (.func 153) [] []), (3, .ptr 0 2 0 0), (4, .ptr 1 2 0 0), (6, .ptr 2 2 0 0), (7, .s (.int .i64 0)), (8, .ptr 3 2 0 0), (32, .s (.int .i64 w15)), (33, .s (.int .i64 w14))], [(0, some ⟨29, .agg [.s (.int .i64 n), .li .u64 a], true⟩), (1, some ⟨29, .agg [.s (.int .i64 m), .li .u64 b], true⟩), (2, some ⟨29, .agg [.s (.int .i64 0), .s (.slice none 0 0)], true⟩), (3, some ⟨29, .agg [.s (.int .i64 n), .sl 4 1 0 w16], true⟩), (4, some ⟨22, .li .u64 w17, true⟩)], 5, none⟩ K = joinXF_l1 fuel n a m b (fun (y22 : Nat) (y23 : List Int) => K (.exit 1) ⟨[(6, .ptr 0 2 0 0), (7, .s (.int .i64 0)), (8, .ptr 1 2 0 0)], [(0, some ⟨29, .agg [.s (.int .i64 0), .s (.slice none 0 0)], true⟩), (1, some ⟨29, .agg [.s (.int .i64 n), .sl 2 1 0 y22], true⟩), (2, some ⟨22, .li .u64 y23, true⟩)], 3, none⟩) k w15 w14 w16 w17
  | 0, _, _, _, _ => rfl
  | k + 1, w15, w14, w16, w17 => by
    unfold joinXF_l1
    exact (joinXF_s2_eq fuel k K w14 w15 a b w16 w17 n m).trans (congr (congr (Eq.refl (joinXF_s2 (R := Out) w14 w15 a b w16 w17 n m)) (funext fun a28 => funext fun a29 => funext fun a30 => funext fun a31 => joinXF_l1_eq fuel n a m b K k a28 a29 a30 a31)) (rfl))
noncomputable def joinXF_s3 {R : Type} (n : Int) (x39 : List Int) (x38 : Nat) (c0 : Int → List Int → Int → Option R) : Option R :=
  c0 n ((x39.drop 0).take x38) 0
theorem joinXF_s3_eq (fuel : Nat)  (n : Int) (x39 : List Int) (x38 : Nat) : (kont (fnX Tryd.prog mode6 T_xor1 fuel 54 0) (bodyOf Tryd.prog 152) [1, 1, 1, 0, 1, 0] 192 (endK Tryd.prog 0 0 152)) (.exit 1) ⟨[(6, .ptr 0 2 0 0), (7, .s (.int .i64 0)), (8, .ptr 1 2 0 0)], [(0, some ⟨29, .agg [.s (.int .i64 0), .s (.slice none 0 0)], true⟩), (1, some ⟨29, .agg [.s (.int .i64 n), .sl 2 1 0 x38], true⟩), (2, some ⟨22, .li .u64 x39, true⟩)], 3, none⟩ = joinXF_s3 n x39 x38 (fun (a40 : Int) (a41 : List Int) (a42 : Int) => some (.tup [.agg [.s (.int .i64 a40), .li .u64 a41], .s (.int .i64 a42)], [])) := by kernel_rfl
noncomputable def joinXF_s1 {R : Type} (a : List Int) (n : Int) (b : List Int) (m : Int) (c0 : Int → Int → Option R) (c1 : Int → Int → Nat → List Int → Option R) : Option R :=
  grd (okW a) <|
  br (!(rtS n a))
    (c0 0 1)
    (grd (okW b) <|
    br (!(rtS m b))
      (c0 0 1)
      (br (n != m)
        (c0 0 2)
        (grd (szB n) <|
        c1 (((nw n) : Nat) : Int) 0 (nw n) (zerosS (nw n)))))
theorem joinXF_s1_eq (fuel : Nat)  (a : List Int) (n : Int) (b : List Int) (m : Int) : callN Tryd.prog mode6 T_xor1 fuel 152 [.agg [.s (.int .i64 n), .li .u64 a], .agg [.s (.int .i64 m), .li .u64 b], .fn (.func 153) [] []] [] = joinXF_s1 a n b m (fun (a1 : Int) (a2 : Int) => some (.tup [.agg [.s (.int .i64 a1), .s (.slice none 0 0)], .s (.int .i64 a2)], [])) (fun (a34 : Int) (a35 : Int) (a36 : Nat) (a37 : List Int) => lpN (sub (bodyOf Tryd.prog 152) [1, 1, 1, 0, 1, 0, 0]) (fnX Tryd.prog mode6 T_xor1 fuel 54 0) 9007199254741440 [2, 3, 4, 6, 7, 8, 32, 33] fuel ⟨[(2, .fn (.func 153) [] []), (3, .ptr 0 2 0 0), (4, .ptr 1 2 0 0), (6, .ptr 2 2 0 0), (7, .s (.int .i64 0)), (8, .ptr 3 2 0 0), (32, .s (.int .i64 a34)), (33, .s (.int .i64 a35))], [(0, some ⟨29, .agg [.s (.int .i64 n), .li .u64 a], true⟩), (1, some ⟨29, .agg [.s (.int .i64 m), .li .u64 b], true⟩), (2, some ⟨29, .agg [.s (.int .i64 0), .s (.slice none 0 0)], true⟩), (3, some ⟨29, .agg [.s (.int .i64 n), .sl 4 1 0 a36], true⟩), (4, some ⟨22, .li .u64 a37, true⟩)], 5, none⟩ (kont (fnX Tryd.prog mode6 T_xor1 fuel 54 0) (bodyOf Tryd.prog 152) [1, 1, 1, 0, 1, 0] 192 (endK Tryd.prog 0 0 152))) := by kernel_rfl
noncomputable def joinXF {R : Type} (fuel : Nat) (n : Int) (a : List Int) (m : Int) (b : List Int) (r0 : Int → Int → Option R) (r1 : Int → List Int → Int → Option R) : Option R :=
  (joinXF_s1 a n b m (fun (a1 : Int) (a2 : Int) => r0 a1 a2) (fun (a34 : Int) (a35 : Int) (a36 : Nat) (a37 : List Int) => (joinXF_l1 fuel n a m b (fun (x38 : Nat) (x39 : List Int) => (joinXF_s3 n x39 x38 (fun (a40 : Int) (a41 : List Int) (a42 : Int) => r1 a40 a41 a42))) fuel a34 a35 a36 a37)))
theorem joinXF_eq (fuel : Nat) (n : Int) (a : List Int) (m : Int) (b : List Int) : callN Tryd.prog mode6 T_xor1 fuel 152 [.agg [.s (.int .i64 n), .li .u64 a], .agg [.s (.int .i64 m), .li .u64 b], .fn (.func 153) [] []] [] = joinXF fuel n a m b (fun (z0 : Int) (z1 : Int) => some (.tup [.agg [.s (.int .i64 z0), .s (.slice none 0 0)], .s (.int .i64 z1)], [])) (fun (z0 : Int) (z1 : List Int) (z2 : Int) => some (.tup [.agg [.s (.int .i64 z0), .li .u64 z1], .s (.int .i64 z2)], [])) := by
  unfold joinXF
  exact (joinXF_s1_eq fuel  a n b m).trans (congr (congr (Eq.refl (joinXF_s1 (R := Out) a n b m)) (rfl)) (funext fun a34 => funext fun a35 => funext fun a36 => funext fun a37 => (joinXF_l1_eq fuel n a m b (kont (fnX Tryd.prog mode6 T_xor1 fuel 54 0) (bodyOf Tryd.prog 152) [1, 1, 1, 0, 1, 0] 192 (endK Tryd.prog 0 0 152)) fuel a34 a35 a36 a37).trans (congrFun (congrFun (congrFun (congrFun (congrFun (congr (Eq.refl (joinXF_l1 (R := Out) fuel n a m b)) (funext fun x38 => funext fun x39 => (joinXF_s3_eq fuel  n x39 x38))) fuel) a34) a35) a36) a37)))
theorem joinX_loop {R : Type} (fuel : Nat) (n m : Int) (a b : List Int) (hl : a.length = b.length) (hx : a.length ≤ 8) (z : List Int) (hz : z.length = a.length) (k0 : Nat → List Int → Option R) : ∀ (k j : Nat), j ≤ a.length → a.length < j + k → joinXF_l1 fuel n a m b k0 k (a.length : Int) (j : Int) a.length ((a.zipWith (fun x y => xorI .u64 x y) b).take j ++ z.drop j) = k0 a.length (a.zipWith (fun x y => xorI .u64 x y) b)
  | 0, j, h1, h2 => by omega
  | k + 1, j, h1, h2 => by
    have ht : (a.zipWith (fun x y => xorI .u64 x y) b).length = z.length := by rw [List.length_zipWith]; omega
    unfold joinXF_l1 joinXF_s2
    rw [br_if]
    by_cases hc : j < a.length
    · have hx8 : xorI .u64 a[j] b[j] = (a.zipWith (fun x y => xorI .u64 x y) b)[j]'(by omega) := by rw [List.getElem_zipWith]
      have eb : below (j : Int) a.length = some j := by rw [below_of (by omega) (by omega)]; rfl
      rw [if_pos (by simpa using hc), bnd_of ((ix_nat a j).trans (List.getElem?_eq_getElem hc)), bnd_of ((ix_nat b j).trans (List.getElem?_eq_getElem (by omega))), bnd_of eb, bnd_of (get_step ht (by omega)), hx8, Nat.zero_add, set_step ht (by omega), wrap_i64 (by omega) (by omega), show (j : Int) + 1 = ((j + 1 : Nat) : Int) by omega]
      exact joinX_loop fuel n m a b hl hx z hz k0 k (j + 1) (by omega) (by omega)
    · have e : j = a.length := by omega
      subst e
      rw [if_neg (by simp), List.drop_eq_nil_of_le (by omega), List.append_nil, List.take_of_length_le (by omega)]
theorem joinX_fact (n : Int) (a : List Int) (m : Int) (b : List Int) (hg : (okW a && okW b) = true) : Fact Tryd.prog gTab 152 [.agg [.s (.int .i64 n), .li .u64 a], .agg [.s (.int .i64 m), .li .u64 b], .fn (.func 153) [] []] [] (.tup [.agg [.s (.int .i64 (xorN n a m b)), .li .u64 (xorW n a m b)], .s (.int .i64 (xorE n a m b))], []) := by
  rw [Bool.and_eq_true] at hg
  obtain ⟨ha, hb⟩ := hg
  have hnil : ∀ e : Int, xorE n a m b = e → e ≠ 0 → Fact Tryd.prog gTab 152 [.agg [.s (.int .i64 n), .li .u64 a], .agg [.s (.int .i64 m), .li .u64 b], .fn (.func 153) [] []] [] (.tup [.agg [.s (.int .i64 0), .s (.slice none 0 0)], .s (.int .i64 e)], []) → Fact Tryd.prog gTab 152 [.agg [.s (.int .i64 n), .li .u64 a], .agg [.s (.int .i64 m), .li .u64 b], .fn (.func 153) [] []] [] (.tup [.agg [.s (.int .i64 (xorN n a m b)), .li .u64 (xorW n a m b)], .s (.int .i64 (xorE n a m b))], []) := by
    intro e h1 h2 h
    have e1 : xorN n a m b = 0 := by rw [xorN_eq]; unfold xorNI; rw [if_neg (by rw [h1]; exact h2)]
    have e2 : xorW n a m b = [] := by rw [xorW_eq]; unfold xorWI; rw [if_neg (by rw [h1]; exact h2)]
    rw [h1, e1, e2]
    exact h.out fun _ _ _ x h => RV_tup_two (fun _ h => RVs_two (fun _ h => RV_agg_two (fun _ h => RVs_two (fun _ h => h) (fun _ h => RVs_two (fun _ h => RV_nil_li h) (fun _ h => h) h) h) h) (fun _ h => h) h) h
  by_cases h1 : rtS n a = true
  · by_cases h2 : rtS m b = true
    · by_cases h3 : n = m
      · have hl : a.length = b.length := by rw [rt_lens h1, rt_lens h2, h3]
        have hla := rt_le h1
        have e0 := xorE_ok h1 h2 h3
        have e1 : xorN n a m b = n := by rw [xorN_eq]; unfold xorNI; rw [if_pos e0]
        have e2 : xorW n a m b = a.zipWith (fun x y => xorI .u64 x y) b := by rw [xorW_eq]; unfold xorWI; rw [if_pos e0]
        rw [e0, e1, e2]
        refine callN_fact hN hM T_xor1_ok (n := 10) (mode := mode6) ?_
        rw [joinXF_eq]
        unfold joinXF joinXF_s1
        have hsz : szB n = true := szB_iff.2 (rtS_iff.1 h1).1
        rw [grd_of ha, h1, br_if, if_neg (by simp), grd_of hb, h2, br_if, if_neg (by simp), br_if, if_neg (by simp [h3]), grd_of hsz, ← rt_lens h1]
        dsimp only
        have hz : (zerosS a.length).length = a.length := by rw [zerosS_eq]; exact List.length_replicate
        have := joinX_loop (R := Out) 10 n m a b hl hla (zerosS a.length) hz
        refine (this _ 10 0 (by omega) (by omega)).trans ?_
        unfold joinXF_s3
        rw [List.drop_zero, List.take_of_length_le (by rw [List.length_zipWith]; omega)]
      · refine hnil 2 (by rw [xorE_eq]; unfold xorEI; rw [if_pos ⟨h1, h2⟩, if_neg h3]) (by decide) ?_
        refine callN_fact hN hM T_xor1_ok (n := 0) (mode := mode6) ?_
        rw [joinXF_eq]
        unfold joinXF joinXF_s1
        rw [grd_of ha, h1, br_if, if_neg (by simp), grd_of hb, h2, br_if, if_neg (by simp), br_if, if_pos (by simp [h3])]
    · refine hnil 1 (by rw [xorE_eq]; unfold xorEI; rw [if_neg (fun h => h2 h.2)]) (by decide) ?_
      refine callN_fact hN hM T_xor1_ok (n := 0) (mode := mode6) ?_
      rw [joinXF_eq]
      unfold joinXF joinXF_s1
      rw [grd_of ha, h1, br_if, if_neg (by simp), grd_of hb, br_if, if_pos (by simp [h2])]
  · refine hnil 1 (by rw [xorE_eq]; unfold xorEI; rw [if_neg (fun h => h1 h.1)]) (by decide) ?_
    refine callN_fact hN hM T_xor1_ok (n := 0) (mode := mode6) ?_
    rw [joinXF_eq]
    unfold joinXF joinXF_s1
    rw [grd_of ha, br_if, if_pos (by simp [h1])]
noncomputable def joinX_ent : List V → List Blk → Option (Bool × Out)
  | [.agg [.s (.int .i64 n), w0], .agg [.s (.int .i64 m), w1], .fn (.func 153) [] []], [] => (asSl (.int .u64) w0).bind fun a => (asSl (.int .u64) w1).bind fun b => some ((okW a && okW b), (.tup [.agg [.s (.int .i64 (xorN n a m b)), .li .u64 (xorW n a m b)], .s (.int .i64 (xorE n a m b))], []))
  | _, _ => none
theorem joinX_ok : ∀ args bs out, joinX_ent args bs = some (true, out) → Fact Tryd.prog gTab 152 args bs out := by
  intro args bs out h
  unfold joinX_ent at h
  split at h
  · rename_i n w0 m w1
    obtain ⟨a, h_a, h⟩ := Option.bind_eq_some_iff.1 h
    obtain ⟨b, h_b, h⟩ := Option.bind_eq_some_iff.1 h
    simp only [Option.some.injEq, Prod.mk.injEq] at h
    obtain ⟨hg, rfl⟩ := h
    exact (joinX_fact n a m b hg).args (fun _ _ _ => fun _ h => RVs_two (fun _ h => RV_agg_two (fun _ h => RVs_two (fun _ h => h) (fun _ h => RVs_two (fun _ h => RV_li h_a h) (fun _ h => h) h) h) h) (fun _ h => RVs_two (fun _ h => RV_agg_two (fun _ h => RVs_two (fun _ h => h) (fun _ h => RVs_two (fun _ h => RV_li h_b h) (fun _ h => h) h) h) h) (fun _ h => h) h) h)
  · cases h
noncomputable def T_joinX : Tbl := Tbl.cons 152 joinX_ent T_xor1
theorem T_joinX_ok : CallOk Tryd.prog gTab T_joinX := cons_ok T_xor1_ok joinX_ok
/-! downpour/bitrow.Xor -/
noncomputable def XorF_s1 {R : Type} (a : List Int) (b : List Int) (n : Int) (m : Int) (c0 : Int → List Int → Int → Option R) : Option R :=
  grd (okW a && okW b) <|
  c0 (xorN n a m b) (xorW n a m b) (xorE n a m b)
theorem XorF_s1_eq (fuel : Nat)  (a : List Int) (b : List Int) (n : Int) (m : Int) : callN Tryd.prog mode6 T_joinX fuel 102 [.agg [.s (.int .i64 n), .li .u64 a], .agg [.s (.int .i64 m), .li .u64 b]] [] = XorF_s1 a b n m (fun (a1 : Int) (a2 : List Int) (a3 : Int) => some (.tup [.agg [.s (.int .i64 a1), .li .u64 a2], .s (.int .i64 a3)], [])) := by kernel_rfl
noncomputable def XorF {R : Type} (fuel : Nat) (n : Int) (a : List Int) (m : Int) (b : List Int) (r0 : Int → List Int → Int → Option R) : Option R :=
  (XorF_s1 a b n m (fun (a1 : Int) (a2 : List Int) (a3 : Int) => r0 a1 a2 a3))
theorem XorF_eq (fuel : Nat) (n : Int) (a : List Int) (m : Int) (b : List Int) : callN Tryd.prog mode6 T_joinX fuel 102 [.agg [.s (.int .i64 n), .li .u64 a], .agg [.s (.int .i64 m), .li .u64 b]] [] = XorF fuel n a m b (fun (z0 : Int) (z1 : List Int) (z2 : Int) => some (.tup [.agg [.s (.int .i64 z0), .li .u64 z1], .s (.int .i64 z2)], [])) := by
  unfold XorF
  exact (XorF_s1_eq fuel  a b n m)
theorem Xor_fact (n : Int) (a : List Int) (m : Int) (b : List Int) (hg : (okW a && okW b) = true) : Fact Tryd.prog gTab 102 [.agg [.s (.int .i64 n), .li .u64 a], .agg [.s (.int .i64 m), .li .u64 b]] [] (.tup [.agg [.s (.int .i64 (xorN n a m b)), .li .u64 (xorW n a m b)], .s (.int .i64 (xorE n a m b))], []) := by
  refine callN_fact hN hM T_joinX_ok (n := 0) (mode := mode6) ?_
  rw [XorF_eq]
  unfold XorF XorF_s1
  rw [grd_of hg]
noncomputable def Xor_ent : List V → List Blk → Option (Bool × Out)
  | [.agg [.s (.int .i64 n), w0], .agg [.s (.int .i64 m), w1]], [] => (asSl (.int .u64) w0).bind fun a => (asSl (.int .u64) w1).bind fun b => some ((okW a && okW b), (.tup [.agg [.s (.int .i64 (xorN n a m b)), .li .u64 (xorW n a m b)], .s (.int .i64 (xorE n a m b))], []))
  | _, _ => none
theorem Xor_ok : ∀ args bs out, Xor_ent args bs = some (true, out) → Fact Tryd.prog gTab 102 args bs out := by
  intro args bs out h
  unfold Xor_ent at h
  split at h
  · rename_i n w0 m w1
    obtain ⟨a, h_a, h⟩ := Option.bind_eq_some_iff.1 h
    obtain ⟨b, h_b, h⟩ := Option.bind_eq_some_iff.1 h
    simp only [Option.some.injEq, Prod.mk.injEq] at h
    obtain ⟨hg, rfl⟩ := h
    exact (Xor_fact n a m b hg).args (fun _ _ _ => fun _ h => RVs_two (fun _ h => RV_agg_two (fun _ h => RVs_two (fun _ h => h) (fun _ h => RVs_two (fun _ h => RV_li h_a h) (fun _ h => h) h) h) h) (fun _ h => RVs_two (fun _ h => RV_agg_two (fun _ h => RVs_two (fun _ h => h) (fun _ h => RVs_two (fun _ h => RV_li h_b h) (fun _ h => h) h) h) h) (fun _ h => h) h) h)
  · cases h
noncomputable def T_Xor : Tbl := Tbl.cons 102 Xor_ent T_joinX
theorem T_Xor_ok : CallOk Tryd.prog gTab T_Xor := cons_ok T_joinX_ok Xor_ok
def mode7 : FuncId → Nat := fun f => bif Nat.beq f 71 then 2 else 0
/-! downpour/bitrow.First -/
noncomputable def FirstF_s3 {R : Type} (e39 : Int) (w40 : Bool) (w20 : Int) (ws : List Int) (w19 : Int) (n : Int) (c0 : Bool → Bool → Int → Int → Int → Option R) (c1 : Bool → Bool → Option R) : Option R :=
  br (e39 != 0)
    (grd (decide (1 ≤ e39) && decide (e39 < 18446744073709551616)) <|
    c0 w40 (e39 != 0) (IntKind.i64.wrap (w20 * 64)) (tzS e39) (IntKind.i64.wrap ((IntKind.i64.wrap (w20 * 64)) + (tzS e39))))
    (c1 w40 (e39 != 0))
theorem FirstF_s3_eq (fuel : Nat) (k : Nat) (K : Ex → St → Option Out) (e39 : Int) (w40 : Bool) (w20 : Int) (ws : List Int) (w19 : Int) (n : Int) : lpN (sub (sub (bodyOf Tryd.prog 126) [1, 0, 0]) [1, 1, 0, 0, 1, 0, 0]) (itX Tryd.prog mode7 T_Xor fuel 3 28 4 3 (roundK (evC (sub (bodyOf Tryd.prog 156) [1, 1, 0, 1, 0, 0])) (evC (sub (bodyOf Tryd.prog 156) [1, 1, 0, 1, 0, 1])) (fnX Tryd.prog mode7 T_Xor fuel 12 0) #[10] 2076 [(2, .ptr 0 1 0 0), (3, .ptr 1 1 0 0), (9, .fn (.func 126) [] [.ptr 2 2 0 0])])) 268435417 [0, 3, 4, 6, 7, 8, 9, 10, 11, 12] (k + 1) ⟨[(0, .yl 3), (3, .s (.int .i64 w20)), (4, .s (.int .u64 e39)), (6, .li .u64 ws), (7, .s (.int .i64 w19)), (8, .s (.int .i64 w20)), (9, .s (.bool w40)), (10, .s (.int .i64 w20)), (11, .lp [.s (.int .u64 e39)] 0), (12, .s (.int .u64 e39))], [(0, some ⟨3, .agg [.s (.int .i64 0)], true⟩), (1, some ⟨24, .agg [.s (.int .i64 0)], true⟩), (2, some ⟨29, .agg [.s (.int .i64 n), .li .u64 ws], true⟩), (3, none)], 4, none⟩ K = FirstF_s3 e39 w40 w20 ws w19 n (fun (a48 : Bool) (a49 : Bool) (a50 : Int) (a51 : Int) (a52 : Int) => K .ret ⟨[(0, .yl 3), (3, .s (.int .i64 w20)), (4, .s (.int .u64 e39)), (6, .li .u64 ws), (7, .s (.int .i64 w19)), (8, .s (.int .i64 w20)), (9, .s (.bool a48)), (10, .s (.int .i64 w20)), (11, .lp [.s (.int .u64 e39)] 0), (12, .s (.int .u64 e39)), (13, .s (.int .u64 e39)), (14, .s (.bool a49)), (19, .yl 3), (20, .s (.int .i64 w20)), (21, .s (.int .i64 a50)), (22, .s (.int .u64 e39)), (23, .s (.int .i64 a51)), (24, .s (.int .i64 a52)), (25, .s (.bool false)), (26, .s (.bool true))], [(0, some ⟨3, .agg [.s (.int .i64 a52)], true⟩), (1, some ⟨24, .agg [.s (.int .i64 0)], true⟩), (2, some ⟨29, .agg [.s (.int .i64 n), .li .u64 ws], true⟩), (3, none)], 4, (some .ret)⟩) (fun (a53 : Bool) (a54 : Bool) => K (.exit 2) ⟨[(0, .yl 3), (3, .s (.int .i64 w20)), (4, .s (.int .u64 e39)), (6, .li .u64 ws), (7, .s (.int .i64 w19)), (8, .s (.int .i64 w20)), (9, .s (.bool a53)), (10, .s (.int .i64 w20)), (11, .lp [.s (.int .u64 e39)] 0), (12, .s (.int .u64 e39)), (13, .s (.int .u64 e39)), (14, .s (.bool a54))], [(0, some ⟨3, .agg [.s (.int .i64 0)], true⟩), (1, some ⟨24, .agg [.s (.int .i64 0)], true⟩), (2, some ⟨29, .agg [.s (.int .i64 n), .li .u64 ws], true⟩), (3, none)], 4, none⟩) := by kernel_rfl
noncomputable def FirstF_l2 {R : Type} (fuel : Nat) (w20 : Int) (e39 : Int) (ws : List Int) (w19 : Int) (n : Int) (k0 : Bool → Bool → Int → Int → Int → Option R) (k1 : Bool → Bool → Option R) : Nat → Bool → Option R
  | 0, _ => none
  | k + 1, w40 =>
    (FirstF_s3 e39 w40 w20 ws w19 n (fun (a48 : Bool) (a49 : Bool) (a50 : Int) (a51 : Int) (a52 : Int) => k0 a48 a49 a50 a51 a52) (fun (a53 : Bool) (a54 : Bool) => k1 a53 a54))
theorem FirstF_l2_eq (fuel : Nat) (w20 : Int) (e39 : Int) (ws : List Int) (w19 : Int) (n : Int) (K : Ex → St → Option Out) : ∀ (k : Nat) (w40 : Bool), lpN (sub (sub (bodyOf Tryd.prog 126) [1, 0, 0]) [1, 1, 0, 0, 1, 0, 0]) (itX Tryd.prog mode7 T_Xor fuel 3 28 4 3 (roundK (evC (sub (bodyOf Tryd.prog 156) [1, 1, 0, 1, 0, 0])) (evC (sub (bodyOf Tryd.prog 156) [1, 1, 0, 1, 0, 1])) (fnX Tryd.prog mode7 T_Xor fuel 12 0) #[10] 2076 [(2, .ptr 0 1 0 0), (3, .ptr 1 1 0 0), (9, .fn (.func 126) [] [.ptr 2 2 0 0])])) 268435417 [0, 3, 4, 6, 7, 8, 9, 10, 11, 12] k ⟨[(0, .yl 3), (3, .s (.int .i64 w20)), (4, .s (.int .u64 e39)), (6, .li .u64 ws), (7, .s (.int .i64 w19)), (8, .s (.int .i64 w20)), (9, .s (.bool w40)), (10, .s (.int .i64 w20)), (11, .lp [.s (.int .u64 e39)] 0), (12, .s (.int .u64 e39))], [(0, some ⟨3, .agg [.s (.int .i64 0)], true⟩), (1, some ⟨24, .agg [.s (.int .i64 0)], true⟩), (2, some ⟨29, .agg [.s (.int .i64 n), .li .u64 ws], true⟩), (3, none)], 4, none⟩ K = FirstF_l2 fuel w20 e39 ws w19 n (fun (y41 : Bool) (y42 : Bool) (y43 : Int) (y44 : Int) (y45 : Int) => K .ret ⟨[(0, .yl 3), (3, .s (.int .i64 w20)), (4, .s (.int .u64 e39)), (6, .li .u64 ws), (7, .s (.int .i64 w19)), (8, .s (.int .i64 w20)), (9, .s (.bool y41)), (10, .s (.int .i64 w20)), (11, .lp [.s (.int .u64 e39)] 0), (12, .s (.int .u64 e39)), (13, .s (.int .u64 e39)), (14, .s (.bool y42)), (19, .yl 3), (20, .s (.int .i64 w20)), (21, .s (.int .i64 y43)), (22, .s (.int .u64 e39)), (23, .s (.int .i64 y44)), (24, .s (.int .i64 y45)), (25, .s (.bool false)), (26, .s (.bool true))], [(0, some ⟨3, .agg [.s (.int .i64 y45)], true⟩), (1, some ⟨24, .agg [.s (.int .i64 0)], true⟩), (2, some ⟨29, .agg [.s (.int .i64 n), .li .u64 ws], true⟩), (3, none)], 4, (some .ret)⟩) (fun (y46 : Bool) (y47 : Bool) => K (.exit 2) ⟨[(0, .yl 3), (3, .s (.int .i64 w20)), (4, .s (.int .u64 e39)), (6, .li .u64 ws), (7, .s (.int .i64 w19)), (8, .s (.int .i64 w20)), (9, .s (.bool y46)), (10, .s (.int .i64 w20)), (11, .lp [.s (.int .u64 e39)] 0), (12, .s (.int .u64 e39)), (13, .s (.int .u64 e39)), (14, .s (.bool y47))], [(0, some ⟨3, .agg [.s (.int .i64 0)], true⟩), (1, some ⟨24, .agg [.s (.int .i64 0)], true⟩), (2, some ⟨29, .agg [.s (.int .i64 n), .li .u64 ws], true⟩), (3, none)], 4, none⟩) k w40
  | 0, _ => rfl
  | k + 1, w40 => by
    unfold FirstF_l2
    exact (FirstF_s3_eq fuel k K e39 w40 w20 ws w19 n)
noncomputable def FirstF_s4 {R : Type} (x60 : Int) (w20 : Int) (e39 : Int) (ws : List Int) (w19 : Int) (x56 : Bool) (x57 : Bool) (x58 : Int) (x59 : Int) (n : Int) (c0 : Int → Option R) : Option R :=
  c0 x60
theorem FirstF_s4_eq (fuel : Nat) (k : Nat) (K : Ex → St → Option Out) (x60 : Int) (w20 : Int) (e39 : Int) (ws : List Int) (w19 : Int) (x56 : Bool) (x57 : Bool) (x58 : Int) (x59 : Int) (n : Int) : (kont (itX Tryd.prog mode7 T_Xor fuel 3 28 4 3 (roundK (evC (sub (bodyOf Tryd.prog 156) [1, 1, 0, 1, 0, 0])) (evC (sub (bodyOf Tryd.prog 156) [1, 1, 0, 1, 0, 1])) (fnX Tryd.prog mode7 T_Xor fuel 12 0) #[10] 2076 [(2, .ptr 0 1 0 0), (3, .ptr 1 1 0 0), (9, .fn (.func 126) [] [.ptr 2 2 0 0])])) (sub (bodyOf Tryd.prog 126) [1, 0, 0]) [1, 1, 0, 0, 1, 0] 268435417 (rdK (sub (bodyOf Tryd.prog 126) [1, 0, 0]) (itX Tryd.prog mode7 T_Xor fuel 3 28 4 3 (roundK (evC (sub (bodyOf Tryd.prog 156) [1, 1, 0, 1, 0, 0])) (evC (sub (bodyOf Tryd.prog 156) [1, 1, 0, 1, 0, 1])) (fnX Tryd.prog mode7 T_Xor fuel 12 0) #[10] 2076 [(2, .ptr 0 1 0 0), (3, .ptr 1 1 0 0), (9, .fn (.func 126) [] [.ptr 2 2 0 0])])) 0 [0, 6, 7, 8] k K)) .ret ⟨[(0, .yl 3), (3, .s (.int .i64 w20)), (4, .s (.int .u64 e39)), (6, .li .u64 ws), (7, .s (.int .i64 w19)), (8, .s (.int .i64 w20)), (9, .s (.bool x56)), (10, .s (.int .i64 w20)), (11, .lp [.s (.int .u64 e39)] 0), (12, .s (.int .u64 e39)), (13, .s (.int .u64 e39)), (14, .s (.bool x57)), (19, .yl 3), (20, .s (.int .i64 w20)), (21, .s (.int .i64 x58)), (22, .s (.int .u64 e39)), (23, .s (.int .i64 x59)), (24, .s (.int .i64 x60)), (25, .s (.bool false)), (26, .s (.bool true))], [(0, some ⟨3, .agg [.s (.int .i64 x60)], true⟩), (1, some ⟨24, .agg [.s (.int .i64 0)], true⟩), (2, some ⟨29, .agg [.s (.int .i64 n), .li .u64 ws], true⟩), (3, none)], 4, (some .ret)⟩ = FirstF_s4 x60 w20 e39 ws w19 x56 x57 x58 x59 n (fun (a61 : Int) => K .ret ⟨[], [(0, some ⟨3, .agg [.s (.int .i64 a61)], true⟩), (1, some ⟨24, .agg [.s (.int .i64 0)], true⟩), (2, some ⟨29, .agg [.s (.int .i64 n), .li .u64 ws], true⟩), (3, none)], 4, (some .ret)⟩) := by kernel_rfl
noncomputable def FirstF_s5 {R : Type} (w19 : Int) (w20 : Int) (e39 : Int) (ws : List Int) (x62 : Bool) (x63 : Bool) (n : Int) (c0 : Int → Int → Option R) : Option R :=
  c0 w19 (IntKind.i64.wrap (w20 + 1))
theorem FirstF_s5_eq (fuel : Nat) (k : Nat) (K : Ex → St → Option Out) (w19 : Int) (w20 : Int) (e39 : Int) (ws : List Int) (x62 : Bool) (x63 : Bool) (n : Int) : (kont (itX Tryd.prog mode7 T_Xor fuel 3 28 4 3 (roundK (evC (sub (bodyOf Tryd.prog 156) [1, 1, 0, 1, 0, 0])) (evC (sub (bodyOf Tryd.prog 156) [1, 1, 0, 1, 0, 1])) (fnX Tryd.prog mode7 T_Xor fuel 12 0) #[10] 2076 [(2, .ptr 0 1 0 0), (3, .ptr 1 1 0 0), (9, .fn (.func 126) [] [.ptr 2 2 0 0])])) (sub (bodyOf Tryd.prog 126) [1, 0, 0]) [1, 1, 0, 0, 1, 0] 268435417 (rdK (sub (bodyOf Tryd.prog 126) [1, 0, 0]) (itX Tryd.prog mode7 T_Xor fuel 3 28 4 3 (roundK (evC (sub (bodyOf Tryd.prog 156) [1, 1, 0, 1, 0, 0])) (evC (sub (bodyOf Tryd.prog 156) [1, 1, 0, 1, 0, 1])) (fnX Tryd.prog mode7 T_Xor fuel 12 0) #[10] 2076 [(2, .ptr 0 1 0 0), (3, .ptr 1 1 0 0), (9, .fn (.func 126) [] [.ptr 2 2 0 0])])) 0 [0, 6, 7, 8] k K)) (.exit 2) ⟨[(0, .yl 3), (3, .s (.int .i64 w20)), (4, .s (.int .u64 e39)), (6, .li .u64 ws), (7, .s (.int .i64 w19)), (8, .s (.int .i64 w20)), (9, .s (.bool x62)), (10, .s (.int .i64 w20)), (11, .lp [.s (.int .u64 e39)] 0), (12, .s (.int .u64 e39)), (13, .s (.int .u64 e39)), (14, .s (.bool x63))], [(0, some ⟨3, .agg [.s (.int .i64 0)], true⟩), (1, some ⟨24, .agg [.s (.int .i64 0)], true⟩), (2, some ⟨29, .agg [.s (.int .i64 n), .li .u64 ws], true⟩), (3, none)], 4, none⟩ = FirstF_s5 w19 w20 e39 ws x62 x63 n (fun (a64 : Int) (a65 : Int) => lpN (sub (bodyOf Tryd.prog 126) [1, 0, 0]) (itX Tryd.prog mode7 T_Xor fuel 3 28 4 3 (roundK (evC (sub (bodyOf Tryd.prog 156) [1, 1, 0, 1, 0, 0])) (evC (sub (bodyOf Tryd.prog 156) [1, 1, 0, 1, 0, 1])) (fnX Tryd.prog mode7 T_Xor fuel 12 0) #[10] 2076 [(2, .ptr 0 1 0 0), (3, .ptr 1 1 0 0), (9, .fn (.func 126) [] [.ptr 2 2 0 0])])) 0 [0, 6, 7, 8] k ⟨[(0, .yl 3), (6, .li .u64 ws), (7, .s (.int .i64 a64)), (8, .s (.int .i64 a65))], [(0, some ⟨3, .agg [.s (.int .i64 0)], true⟩), (1, some ⟨24, .agg [.s (.int .i64 0)], true⟩), (2, some ⟨29, .agg [.s (.int .i64 n), .li .u64 ws], true⟩), (3, none)], 4, none⟩ K) := by kernel_rfl
noncomputable def FirstF_s2 {R : Type} (w20 : Int) (w19 : Int) (ws : List Int) (n : Int) (c0 : Bool → Int → Option R) (c1 : Option R) : Option R :=
  br (decide (w20 < w19))
    (bnd (ix ws w20) fun e39 =>
    c0 (decide (w20 < w19)) e39)
    (c1)
theorem FirstF_s2_eq (fuel : Nat) (k : Nat) (K : Ex → St → Option Out) (w20 : Int) (w19 : Int) (ws : List Int) (n : Int) : lpN (sub (bodyOf Tryd.prog 126) [1, 0, 0]) (itX Tryd.prog mode7 T_Xor fuel 3 28 4 3 (roundK (evC (sub (bodyOf Tryd.prog 156) [1, 1, 0, 1, 0, 0])) (evC (sub (bodyOf Tryd.prog 156) [1, 1, 0, 1, 0, 1])) (fnX Tryd.prog mode7 T_Xor fuel 12 0) #[10] 2076 [(2, .ptr 0 1 0 0), (3, .ptr 1 1 0 0), (9, .fn (.func 126) [] [.ptr 2 2 0 0])])) 0 [0, 6, 7, 8] (k + 1) ⟨[(0, .yl 3), (6, .li .u64 ws), (7, .s (.int .i64 w19)), (8, .s (.int .i64 w20))], [(0, some ⟨3, .agg [.s (.int .i64 0)], true⟩), (1, some ⟨24, .agg [.s (.int .i64 0)], true⟩), (2, some ⟨29, .agg [.s (.int .i64 n), .li .u64 ws], true⟩), (3, none)], 4, none⟩ K = FirstF_s2 w20 w19 ws n (fun (a55 : Bool) (e39 : Int) => lpN (sub (sub (bodyOf Tryd.prog 126) [1, 0, 0]) [1, 1, 0, 0, 1, 0, 0]) (itX Tryd.prog mode7 T_Xor fuel 3 28 4 3 (roundK (evC (sub (bodyOf Tryd.prog 156) [1, 1, 0, 1, 0, 0])) (evC (sub (bodyOf Tryd.prog 156) [1, 1, 0, 1, 0, 1])) (fnX Tryd.prog mode7 T_Xor fuel 12 0) #[10] 2076 [(2, .ptr 0 1 0 0), (3, .ptr 1 1 0 0), (9, .fn (.func 126) [] [.ptr 2 2 0 0])])) 268435417 [0, 3, 4, 6, 7, 8, 9, 10, 11, 12] fuel ⟨[(0, .yl 3), (3, .s (.int .i64 w20)), (4, .s (.int .u64 e39)), (6, .li .u64 ws), (7, .s (.int .i64 w19)), (8, .s (.int .i64 w20)), (9, .s (.bool a55)), (10, .s (.int .i64 w20)), (11, .lp [.s (.int .u64 e39)] 0), (12, .s (.int .u64 e39))], [(0, some ⟨3, .agg [.s (.int .i64 0)], true⟩), (1, some ⟨24, .agg [.s (.int .i64 0)], true⟩), (2, some ⟨29, .agg [.s (.int .i64 n), .li .u64 ws], true⟩), (3, none)], 4, none⟩ (kont (itX Tryd.prog mode7 T_Xor fuel 3 28 4 3 (roundK (evC (sub (bodyOf Tryd.prog 156) [1, 1, 0, 1, 0, 0])) (evC (sub (bodyOf Tryd.prog 156) [1, 1, 0, 1, 0, 1])) (fnX Tryd.prog mode7 T_Xor fuel 12 0) #[10] 2076 [(2, .ptr 0 1 0 0), (3, .ptr 1 1 0 0), (9, .fn (.func 126) [] [.ptr 2 2 0 0])])) (sub (bodyOf Tryd.prog 126) [1, 0, 0]) [1, 1, 0, 0, 1, 0] 268435417 (rdK (sub (bodyOf Tryd.prog 126) [1, 0, 0]) (itX Tryd.prog mode7 T_Xor fuel 3 28 4 3 (roundK (evC (sub (bodyOf Tryd.prog 156) [1, 1, 0, 1, 0, 0])) (evC (sub (bodyOf Tryd.prog 156) [1, 1, 0, 1, 0, 1])) (fnX Tryd.prog mode7 T_Xor fuel 12 0) #[10] 2076 [(2, .ptr 0 1 0 0), (3, .ptr 1 1 0 0), (9, .fn (.func 126) [] [.ptr 2 2 0 0])])) 0 [0, 6, 7, 8] k K))) (K (.exit 0) ⟨[], [(0, some ⟨3, .agg [.s (.int .i64 0)], true⟩), (1, some ⟨24, .agg [.s (.int .i64 0)], true⟩), (2, some ⟨29, .agg [.s (.int .i64 n), .li .u64 ws], true⟩), (3, none)], 4, none⟩) := by kernel_rfl
noncomputable def FirstF_l1 {R : Type} (fuel : Nat) (ws : List Int) (n : Int) (k0 : Int → Option R) (k1 : Option R) : Nat → Int → Int → Option R
  | 0, _, _ => none
  | k + 1, w19, w20 =>
    (FirstF_s2 w20 w19 ws n (fun (a55 : Bool) (e39 : Int) => (FirstF_l2 fuel w20 e39 ws w19 n (fun (x56 : Bool) (x57 : Bool) (x58 : Int) (x59 : Int) (x60 : Int) => (FirstF_s4 x60 w20 e39 ws w19 x56 x57 x58 x59 n (fun (a61 : Int) => k0 a61))) (fun (x62 : Bool) (x63 : Bool) => (FirstF_s5 w19 w20 e39 ws x62 x63 n (fun (a64 : Int) (a65 : Int) => ( FirstF_l1 fuel ws n k0 k1 k a64 a65 )))) fuel a55)) (k1))
theorem FirstF_l1_eq (fuel : Nat) (ws : List Int) (n : Int) (K : Ex → St → Option Out) : ∀ (k : Nat) (w19 : Int) (w20 : Int), lpN (sub (bodyOf Tryd.prog 126) [1, 0, 0]) (itX Tryd.prog mode7 T_Xor fuel 3 28 4 3 (roundK (evC (sub (bodyOf Tryd.prog 156) [1, 1, 0, 1, 0, 0])) (evC (sub (bodyOf Tryd.prog 156) [1, 1, 0, 1, 0, 1])) (fnX Tryd.prog mode7 T_Xor fuel 12 0) #[10] 2076 [(2, .ptr 0 1 0 0), (3, .ptr 1 1 0 0), (9, .fn (.func 126) [] [.ptr 2 2 0 0])])) 0 [0, 6, 7, 8] k ⟨[(0, .yl 3), (6, .li .u64 ws), (7, .s (.int .i64 w19)), (8, .s (.int .i64 w20))], [(0, some ⟨3, .agg [.s (.int .i64 0)], true⟩), (1, some ⟨24, .agg [.s (.int .i64 0)], true⟩), (2, some ⟨29, .agg [.s (.int .i64 n), .li .u64 ws], true⟩), (3, none)], 4, none⟩ K = FirstF_l1 fuel ws n (fun (y38 : Int) => K .ret ⟨[], [(0, some ⟨3, .agg [.s (.int .i64 y38)], true⟩), (1, some ⟨24, .agg [.s (.int .i64 0)], true⟩), (2, some ⟨29, .agg [.s (.int .i64 n), .li .u64 ws], true⟩), (3, none)], 4, (some .ret)⟩) (K (.exit 0) ⟨[], [(0, some ⟨3, .agg [.s (.int .i64 0)], true⟩), (1, some ⟨24, .agg [.s (.int .i64 0)], true⟩), (2, some ⟨29, .agg [.s (.int .i64 n), .li .u64 ws], true⟩), (3, none)], 4, none⟩) k w19 w20
  | 0, _, _ => rfl
  | k + 1, w19, w20 => by
    unfold FirstF_l1
    exact (FirstF_s2_eq fuel k K w20 w19 ws n).trans (congr (congr (Eq.refl (FirstF_s2 (R := Out) w20 w19 ws n)) (funext fun a55 => funext fun e39 => (FirstF_l2_eq fuel w20 e39 ws w19 n (kont (itX Tryd.prog mode7 T_Xor fuel 3 28 4 3 (roundK (evC (sub (bodyOf Tryd.prog 156) [1, 1, 0, 1, 0, 0])) (evC (sub (bodyOf Tryd.prog 156) [1, 1, 0, 1, 0, 1])) (fnX Tryd.prog mode7 T_Xor fuel 12 0) #[10] 2076 [(2, .ptr 0 1 0 0), (3, .ptr 1 1 0 0), (9, .fn (.func 126) [] [.ptr 2 2 0 0])])) (sub (bodyOf Tryd.prog 126) [1, 0, 0]) [1, 1, 0, 0, 1, 0] 268435417 (rdK (sub (bodyOf Tryd.prog 126) [1, 0, 0]) (itX Tryd.prog mode7 T_Xor fuel 3 28 4 3 (roundK (evC (sub (bodyOf Tryd.prog 156) [1, 1, 0, 1, 0, 0])) (evC (sub (bodyOf Tryd.prog 156) [1, 1, 0, 1, 0, 1])) (fnX Tryd.prog mode7 T_Xor fuel 12 0) #[10] 2076 [(2, .ptr 0 1 0 0), (3, .ptr 1 1 0 0), (9, .fn (.func 126) [] [.ptr 2 2 0 0])])) 0 [0, 6, 7, 8] k K)) fuel a55).trans (congrFun (congrFun (congr (congr (Eq.refl (FirstF_l2 (R := Out) fuel w20 e39 ws w19 n)) (funext fun x56 => funext fun x57 => funext fun x58 => funext fun x59 => funext fun x60 => (FirstF_s4_eq fuel k K x60 w20 e39 ws w19 x56 x57 x58 x59 n))) (funext fun x62 => funext fun x63 => (FirstF_s5_eq fuel k K w19 w20 e39 ws x62 x63 n).trans (congr (Eq.refl (FirstF_s5 (R := Out) w19 w20 e39 ws x62 x63 n)) (funext fun a64 => funext fun a65 => FirstF_l1_eq fuel ws n K k a64 a65)))) fuel) a55))) (rfl))
noncomputable def FirstF_s6 {R : Type} (x68 : Int) (n : Int) (ws : List Int) (c0 : Int → Int → Option R) : Option R :=
  c0 x68 0
theorem FirstF_s6_eq (fuel : Nat)  (x68 : Int) (n : Int) (ws : List Int) : (kont (itX Tryd.prog mode7 T_Xor fuel 3 28 4 3 (roundK (evC (sub (bodyOf Tryd.prog 156) [1, 1, 0, 1, 0, 0])) (evC (sub (bodyOf Tryd.prog 156) [1, 1, 0, 1, 0, 1])) (fnX Tryd.prog mode7 T_Xor fuel 12 0) #[10] 2076 [(2, .ptr 0 1 0 0), (3, .ptr 1 1 0 0), (9, .fn (.func 126) [] [.ptr 2 2 0 0])])) (bodyOf Tryd.prog 126) [1, 0] 0 (itE (behind ⟨[(2, .ptr 0 1 0 0), (3, .ptr 1 1 0 0), (9, .fn (.func 126) [] [.ptr 2 2 0 0])], [(0, some ⟨3, .agg [.s (.int .i64 0)], true⟩), (1, some ⟨24, .agg [.s (.int .i64 0)], true⟩), (2, some ⟨29, .agg [.s (.int .i64 n), .li .u64 ws], true⟩)], 3, none⟩ (kont (fnX Tryd.prog mode7 T_Xor fuel 12 0) (bodyOf Tryd.prog 156) [1, 1, 0, 1, 0] 12 (endK Tryd.prog 0 0 156))))) .ret ⟨[], [(0, some ⟨3, .agg [.s (.int .i64 x68)], true⟩), (1, some ⟨24, .agg [.s (.int .i64 0)], true⟩), (2, some ⟨29, .agg [.s (.int .i64 n), .li .u64 ws], true⟩), (3, none)], 4, (some .ret)⟩ = FirstF_s6 x68 n ws (fun (a69 : Int) (a70 : Int) => some (.tup [.s (.int .i64 a69), .s (.int .i64 a70)], [])) := by kernel_rfl
noncomputable def FirstF_s7 {R : Type} (n : Int) (ws : List Int) (c0 : Int → Int → Option R) : Option R :=
  c0 0 4
theorem FirstF_s7_eq (fuel : Nat)  (n : Int) (ws : List Int) : (kont (itX Tryd.prog mode7 T_Xor fuel 3 28 4 3 (roundK (evC (sub (bodyOf Tryd.prog 156) [1, 1, 0, 1, 0, 0])) (evC (sub (bodyOf Tryd.prog 156) [1, 1, 0, 1, 0, 1])) (fnX Tryd.prog mode7 T_Xor fuel 12 0) #[10] 2076 [(2, .ptr 0 1 0 0), (3, .ptr 1 1 0 0), (9, .fn (.func 126) [] [.ptr 2 2 0 0])])) (bodyOf Tryd.prog 126) [1, 0] 0 (itE (behind ⟨[(2, .ptr 0 1 0 0), (3, .ptr 1 1 0 0), (9, .fn (.func 126) [] [.ptr 2 2 0 0])], [(0, some ⟨3, .agg [.s (.int .i64 0)], true⟩), (1, some ⟨24, .agg [.s (.int .i64 0)], true⟩), (2, some ⟨29, .agg [.s (.int .i64 n), .li .u64 ws], true⟩)], 3, none⟩ (kont (fnX Tryd.prog mode7 T_Xor fuel 12 0) (bodyOf Tryd.prog 156) [1, 1, 0, 1, 0] 12 (endK Tryd.prog 0 0 156))))) (.exit 0) ⟨[], [(0, some ⟨3, .agg [.s (.int .i64 0)], true⟩), (1, some ⟨24, .agg [.s (.int .i64 0)], true⟩), (2, some ⟨29, .agg [.s (.int .i64 n), .li .u64 ws], true⟩), (3, none)], 4, none⟩ = FirstF_s7 n ws (fun (a71 : Int) (a72 : Int) => some (.tup [.s (.int .i64 a71), .s (.int .i64 a72)], [])) := by kernel_rfl
noncomputable def FirstF_s1 {R : Type} (ws : List Int) (n : Int) (c0 : Int → Int → Option R) (c1 : Int → Int → Option R) : Option R :=
  grd (okW ws) <|
  br (!(rtS n ws))
    (c0 0 1)
    (c1 ((ws.length : Nat) : Int) 0)
theorem FirstF_s1_eq (fuel : Nat)  (ws : List Int) (n : Int) : callN Tryd.prog mode7 T_Xor fuel 156 [.agg [.s (.int .i64 n), .li .u64 ws]] [] = FirstF_s1 ws n (fun (a1 : Int) (a2 : Int) => some (.tup [.s (.int .i64 a1), .s (.int .i64 a2)], [])) (fun (a66 : Int) (a67 : Int) => lpN (sub (bodyOf Tryd.prog 126) [1, 0, 0]) (itX Tryd.prog mode7 T_Xor fuel 3 28 4 3 (roundK (evC (sub (bodyOf Tryd.prog 156) [1, 1, 0, 1, 0, 0])) (evC (sub (bodyOf Tryd.prog 156) [1, 1, 0, 1, 0, 1])) (fnX Tryd.prog mode7 T_Xor fuel 12 0) #[10] 2076 [(2, .ptr 0 1 0 0), (3, .ptr 1 1 0 0), (9, .fn (.func 126) [] [.ptr 2 2 0 0])])) 0 [0, 6, 7, 8] fuel ⟨[(0, .yl 3), (6, .li .u64 ws), (7, .s (.int .i64 a66)), (8, .s (.int .i64 a67))], [(0, some ⟨3, .agg [.s (.int .i64 0)], true⟩), (1, some ⟨24, .agg [.s (.int .i64 0)], true⟩), (2, some ⟨29, .agg [.s (.int .i64 n), .li .u64 ws], true⟩), (3, none)], 4, none⟩ (kont (itX Tryd.prog mode7 T_Xor fuel 3 28 4 3 (roundK (evC (sub (bodyOf Tryd.prog 156) [1, 1, 0, 1, 0, 0])) (evC (sub (bodyOf Tryd.prog 156) [1, 1, 0, 1, 0, 1])) (fnX Tryd.prog mode7 T_Xor fuel 12 0) #[10] 2076 [(2, .ptr 0 1 0 0), (3, .ptr 1 1 0 0), (9, .fn (.func 126) [] [.ptr 2 2 0 0])])) (bodyOf Tryd.prog 126) [1, 0] 0 (itE (behind ⟨[(2, .ptr 0 1 0 0), (3, .ptr 1 1 0 0), (9, .fn (.func 126) [] [.ptr 2 2 0 0])], [(0, some ⟨3, .agg [.s (.int .i64 0)], true⟩), (1, some ⟨24, .agg [.s (.int .i64 0)], true⟩), (2, some ⟨29, .agg [.s (.int .i64 n), .li .u64 ws], true⟩)], 3, none⟩ (kont (fnX Tryd.prog mode7 T_Xor fuel 12 0) (bodyOf Tryd.prog 156) [1, 1, 0, 1, 0] 12 (endK Tryd.prog 0 0 156)))))) := by kernel_rfl
noncomputable def FirstF {R : Type} (fuel : Nat) (n : Int) (ws : List Int) (r0 : Int → Int → Option R) : Option R :=
  (FirstF_s1 ws n (fun (a1 : Int) (a2 : Int) => r0 a1 a2) (fun (a66 : Int) (a67 : Int) => (FirstF_l1 fuel ws n (fun (x68 : Int) => (FirstF_s6 x68 n ws (fun (a69 : Int) (a70 : Int) => r0 a69 a70))) ((FirstF_s7 n ws (fun (a71 : Int) (a72 : Int) => r0 a71 a72))) fuel a66 a67)))
theorem FirstF_eq (fuel : Nat) (n : Int) (ws : List Int) : callN Tryd.prog mode7 T_Xor fuel 156 [.agg [.s (.int .i64 n), .li .u64 ws]] [] = FirstF fuel n ws (fun (z0 : Int) (z1 : Int) => some (.tup [.s (.int .i64 z0), .s (.int .i64 z1)], [])) := by
  unfold FirstF
  exact (FirstF_s1_eq fuel  ws n).trans (congr (congr (Eq.refl (FirstF_s1 (R := Out) ws n)) (rfl)) (funext fun a66 => funext fun a67 => (FirstF_l1_eq fuel ws n (kont (itX Tryd.prog mode7 T_Xor fuel 3 28 4 3 (roundK (evC (sub (bodyOf Tryd.prog 156) [1, 1, 0, 1, 0, 0])) (evC (sub (bodyOf Tryd.prog 156) [1, 1, 0, 1, 0, 1])) (fnX Tryd.prog mode7 T_Xor fuel 12 0) #[10] 2076 [(2, .ptr 0 1 0 0), (3, .ptr 1 1 0 0), (9, .fn (.func 126) [] [.ptr 2 2 0 0])])) (bodyOf Tryd.prog 126) [1, 0] 0 (itE (behind ⟨[(2, .ptr 0 1 0 0), (3, .ptr 1 1 0 0), (9, .fn (.func 126) [] [.ptr 2 2 0 0])], [(0, some ⟨3, .agg [.s (.int .i64 0)], true⟩), (1, some ⟨24, .agg [.s (.int .i64 0)], true⟩), (2, some ⟨29, .agg [.s (.int .i64 n), .li .u64 ws], true⟩)], 3, none⟩ (kont (fnX Tryd.prog mode7 T_Xor fuel 12 0) (bodyOf Tryd.prog 156) [1, 1, 0, 1, 0] 12 (endK Tryd.prog 0 0 156))))) fuel a66 a67).trans (congrFun (congrFun (congrFun (congr (congr (Eq.refl (FirstF_l1 (R := Out) fuel ws n)) (funext fun x68 => (FirstF_s6_eq fuel  x68 n ws))) ((FirstF_s7_eq fuel  n ws))) fuel) a66) a67)))
theorem First_loop {R : Type} (fuel : Nat) (n : Int) (ws : List Int) (hf : 0 < fuel) (hok : okW ws = true) (hx : ws.length ≤ 8) (k0 : Int → Option R) (k1 : Option R) : ∀ (k i d : Nat), i + d = ws.length → d < k → FirstF_l1 fuel ws n k0 k1 k (ws.length : Int) (i : Int) = if (wordsFrom ws d i).length = 0 then k1 else k0 ((wordsFrom ws d i).headD 0)
  | 0, i, d, h1, h2 => by omega
  | k + 1, i, 0, h1, h2 => by
    unfold FirstF_l1 FirstF_s2
    rw [br_if, if_neg (by simp; omega)]
    rfl
  | k + 1, i, d + 1, h1, h2 => by
    have hc : i < ws.length := by omega
    have hw := okW_iff.1 hok _ (List.getElem_mem hc)
    have eg : ws.getD i 0 = ws[i] := by rw [List.getD_eq_getElem?_getD, List.getElem?_eq_getElem hc]; rfl
    unfold FirstF_l1 FirstF_s2
    rw [br_if, if_pos (by simpa using hc), bnd_of ((ix_nat ws i).trans (List.getElem?_eq_getElem hc))]
    dsimp only
    obtain ⟨f, rfl⟩ : ∃ f, fuel = f + 1 := ⟨fuel - 1, by omega⟩
    rw [wordsFrom, eg]
    unfold FirstF_l2 FirstF_s3
    dsimp only
    rw [br_if]
    by_cases hz : ws[i] = 0
    · rw [if_neg (by simp [hz])]
      unfold FirstF_s5
      rw [hz, show (0 : Int).toNat = 0 from rfl, bitsAt_zero, List.nil_append, wrap_i64 (by omega) (by omega), show (i : Int) + 1 = ((i + 1 : Nat) : Int) by omega]
      exact First_loop (f + 1) n ws hf hok hx k0 k1 k (i + 1) d (by omega) (by omega)
    · rw [if_pos (by simpa using hz), grd_of (by simp; omega)]
      unfold FirstF_s4
      have hst := bitsAt_step (k := i) (v := (ws[i]).toNat) (by omega) (by omega)
      have ht : tzS ws[i] = ((Lib.ctz 64 (ws[i]).toNat : Nat) : Int) := by rw [tzS_eq]; rfl
      obtain ⟨_, _, hlt⟩ := parts (v := (ws[i]).toNat) (by omega) (by omega)
      rw [hst, if_neg (by simp), ht, wrap_i64 (x := (i : Int) * 64) (by omega) (by omega), wrap_i64 (by omega) (by omega)]
      congr 1
      show _ = ((64 * i + Lib.ctz 64 (ws[i]).toNat : Nat) : Int)
      omega
theorem First_fact (n : Int) (ws : List Int) (hg : (okW ws) = true) : Fact Tryd.prog gTab 156 [.agg [.s (.int .i64 n), .li .u64 ws]] [] (.tup [.s (.int .i64 (fstS n ws)), .s (.int .i64 (fstE n ws))], []) := by
  refine callN_fact hN hM T_Xor_ok (n := 10) (mode := mode7) ?_
  rw [FirstF_eq]
  unfold FirstF FirstF_s1
  rw [grd_of hg, br_if, fstS_eq, fstE_eq]
  unfold fstI fstEI
  by_cases h : rtS n ws = true
  · have hl := rt_le h
    rw [if_neg (by simp [h]), if_pos h, if_pos h]
    dsimp only
    have := First_loop (R := Out) 10 n ws (by decide) hg hl
    refine (this _ _ 10 0 ws.length (by omega) (by omega)).trans ?_
    have hp : plS ws = wordsFrom ws ws.length 0 := by rw [plS_eq]; rfl
    rw [hp]
    unfold FirstF_s6 FirstF_s7
    by_cases h0 : (wordsFrom ws ws.length 0).length = 0
    · rw [if_pos h0, if_pos h0, List.eq_nil_of_length_eq_zero h0]; rfl
    · rw [if_neg h0, if_neg h0]
  · rw [if_pos (by simp [h]), if_neg h, if_neg h]
noncomputable def First_ent : List V → List Blk → Option (Bool × Out)
  | [.agg [.s (.int .i64 n), w0]], [] => (asSl (.int .u64) w0).bind fun ws => some ((okW ws), (.tup [.s (.int .i64 (fstS n ws)), .s (.int .i64 (fstE n ws))], []))
  | _, _ => none
theorem First_ok : ∀ args bs out, First_ent args bs = some (true, out) → Fact Tryd.prog gTab 156 args bs out := by
  intro args bs out h
  unfold First_ent at h
  split at h
  · rename_i n w0
    obtain ⟨ws, h_ws, h⟩ := Option.bind_eq_some_iff.1 h
    simp only [Option.some.injEq, Prod.mk.injEq] at h
    obtain ⟨hg, rfl⟩ := h
    exact (First_fact n ws hg).args (fun _ _ _ => fun _ h => RVs_two (fun _ h => RV_agg_two (fun _ h => RVs_two (fun _ h => h) (fun _ h => RVs_two (fun _ h => RV_li h_ws h) (fun _ h => h) h) h) h) (fun _ h => h) h)
  · cases h
noncomputable def T_First : Tbl := Tbl.cons 156 First_ent T_Xor
theorem T_First_ok : CallOk Tryd.prog gTab T_First := cons_ok T_Xor_ok First_ok
def mode8 : FuncId → Nat := fun f => 0
/-! downpour/downpourref01.Places -/
noncomputable def refPlacesF_s2 {R : Type} (w2 : Int) (n : Int) (ws : List Int) (w3 : List Int) (w1 : Nat) (c0 : Nat → Int → List Int → Option R) (c1 : Nat → Int → List Int → Option R) (c2 : Nat → List Int → Option R) : Option R :=
  br (decide (w2 < n))
    (grd (okW ws && decide (0 ≤ w2) && decide (w2 < 64 * (ws.length : Int)) && decide (ws.length ≤ 1000000)) <|
    br (((bitS ws w2) : Int) == 1)
      (grd (Nat.beq w3.length w1) <|
      grd (okN (w1 + 1) 8) <|
      c0 ((w3 ++ [w2]).length) (IntKind.i64.wrap (w2 + 1)) (w3 ++ [w2]))
      (c1 w1 (IntKind.i64.wrap (w2 + 1)) w3))
    (c2 w1 w3)
theorem refPlacesF_s2_eq (fuel : Nat) (k : Nat) (K : Ex → St → Option Out) (w2 : Int) (n : Int) (ws : List Int) (w3 : List Int) (w1 : Nat) : lpN (sub (bodyOf Tryd.prog 110) [1, 1, 0, 1, 0, 0]) (fnX Tryd.prog mode8 T_First fuel 21 0) 1048588 [1, 2, 3, 4] (k + 1) ⟨[(1, .ptr 0 2 0 0), (2, .s (.slice none 0 0)), (3, .sl 1 1 0 w1), (4, .s (.int .i64 w2))], [(0, some ⟨29, .agg [.s (.int .i64 n), .li .u64 ws], true⟩), (1, some ⟨3, .li .i64 w3, true⟩)], 2, none⟩ K = refPlacesF_s2 w2 n ws w3 w1 (fun (a6 : Nat) (a7 : Int) (a8 : List Int) => lpN (sub (bodyOf Tryd.prog 110) [1, 1, 0, 1, 0, 0]) (fnX Tryd.prog mode8 T_First fuel 21 0) 1048588 [1, 2, 3, 4] k ⟨[(1, .ptr 0 2 0 0), (2, .s (.slice none 0 0)), (3, .sl 1 1 0 a6), (4, .s (.int .i64 a7))], [(0, some ⟨29, .agg [.s (.int .i64 n), .li .u64 ws], true⟩), (1, some ⟨3, .li .i64 a8, true⟩)], 2, none⟩ K) (fun (a9 : Nat) (a10 : Int) (a11 : List Int) => lpN (sub (bodyOf Tryd.prog 110) [1, 1, 0, 1, 0, 0]) (fnX Tryd.prog mode8 T_First fuel 21 0) 1048588 [1, 2, 3, 4] k ⟨[(1, .ptr 0 2 0 0), (2, .s (.slice none 0 0)), (3, .sl 1 1 0 a9), (4, .s (.int .i64 a10))], [(0, some ⟨29, .agg [.s (.int .i64 n), .li .u64 ws], true⟩), (1, some ⟨3, .li .i64 a11, true⟩)], 2, none⟩ K) (fun (a12 : Nat) (a13 : List Int) => K (.exit 0) ⟨[(2, .s (.slice none 0 0)), (3, .sl 0 1 0 a12)], [(0, some ⟨3, .li .i64 a13, true⟩)], 1, none⟩) := by kernel_rfl
noncomputable def refPlacesF_l1 {R : Type} (fuel : Nat) (n : Int) (ws : List Int) (k0 : Nat → List Int → Option R) : Nat → Nat → Int → List Int → Option R
  | 0, _, _, _ => none
  | k + 1, w1, w2, w3 =>
    (refPlacesF_s2 w2 n ws w3 w1 (fun (a6 : Nat) (a7 : Int) (a8 : List Int) => ( refPlacesF_l1 fuel n ws k0 k a6 a7 a8 )) (fun (a9 : Nat) (a10 : Int) (a11 : List Int) => ( refPlacesF_l1 fuel n ws k0 k a9 a10 a11 )) (fun (a12 : Nat) (a13 : List Int) => k0 a12 a13))
theorem refPlacesF_l1_eq (fuel : Nat) (n : Int) (ws : List Int) (K : Ex → St → Option Out) : ∀ (k : Nat) (w1 : Nat) (w2 : Int) (w3 : List Int), lpN (sub (bodyOf Tryd.prog 110) [1, 1, 0, 1, 0, 0]) (fnX Tryd.prog mode8 T_First fuel 21 0) 1048588 [1, 2, 3, 4] k ⟨[(1, .ptr 0 2 0 0), (2, .s (.slice none 0 0)), (3, .sl 1 1 0 w1), (4, .s (.int .i64 w2))], [(0, some ⟨29, .agg [.s (.int .i64 n), .li .u64 ws], true⟩), (1, some ⟨3, .li .i64 w3, true⟩)], 2, none⟩ K = refPlacesF_l1 fuel n ws (fun (y4 : Nat) (y5 : List Int) => K (.exit 0) ⟨[(2, .s (.slice none 0 0)), (3, .sl 0 1 0 y4)], [(0, some ⟨3, .li .i64 y5, true⟩)], 1, none⟩) k w1 w2 w3
  | 0, _, _, _ => rfl
  | k + 1, w1, w2, w3 => by
    unfold refPlacesF_l1
    exact (refPlacesF_s2_eq fuel k K w2 n ws w3 w1).trans (congr (congr (congr (Eq.refl (refPlacesF_s2 (R := Out) w2 n ws w3 w1)) (funext fun a6 => funext fun a7 => funext fun a8 => refPlacesF_l1_eq fuel n ws K k a6 a7 a8)) (funext fun a9 => funext fun a10 => funext fun a11 => refPlacesF_l1_eq fuel n ws K k a9 a10 a11)) (rfl))
noncomputable def refPlacesF_s3 {R : Type} (x18 : List Int) (x17 : Nat) (c0 : List Int → Option R) : Option R :=
  c0 ((x18.drop 0).take x17)
theorem refPlacesF_s3_eq (fuel : Nat)  (x18 : List Int) (x17 : Nat) : (kont (fnX Tryd.prog mode8 T_First fuel 21 0) (bodyOf Tryd.prog 110) [1, 1, 0, 1, 0] 4 (endK Tryd.prog 0 0 110)) (.exit 0) ⟨[(2, .s (.slice none 0 0)), (3, .sl 0 1 0 x17)], [(0, some ⟨3, .li .i64 x18, true⟩)], 1, none⟩ = refPlacesF_s3 x18 x17 (fun (a19 : List Int) => some (.li .i64 a19, [])) := by kernel_rfl
noncomputable def refPlacesF_s1 {R : Type} (n : Int) (ws : List Int) (c0 : Nat → Int → List Int → Option R) : Option R :=
  c0 0 0 ([])
theorem refPlacesF_s1_eq (fuel : Nat)  (n : Int) (ws : List Int) : callN Tryd.prog mode8 T_First fuel 110 [.agg [.s (.int .i64 n), .li .u64 ws]] [] = refPlacesF_s1 n ws (fun (a14 : Nat) (a15 : Int) (a16 : List Int) => lpN (sub (bodyOf Tryd.prog 110) [1, 1, 0, 1, 0, 0]) (fnX Tryd.prog mode8 T_First fuel 21 0) 1048588 [1, 2, 3, 4] fuel ⟨[(1, .ptr 0 2 0 0), (2, .s (.slice none 0 0)), (3, .sl 1 1 0 a14), (4, .s (.int .i64 a15))], [(0, some ⟨29, .agg [.s (.int .i64 n), .li .u64 ws], true⟩), (1, some ⟨3, .li .i64 a16, true⟩)], 2, none⟩ (kont (fnX Tryd.prog mode8 T_First fuel 21 0) (bodyOf Tryd.prog 110) [1, 1, 0, 1, 0] 4 (endK Tryd.prog 0 0 110))) := by kernel_rfl
noncomputable def refPlacesF {R : Type} (fuel : Nat) (n : Int) (ws : List Int) (r0 : List Int → Option R) : Option R :=
  (refPlacesF_s1 n ws (fun (a14 : Nat) (a15 : Int) (a16 : List Int) => (refPlacesF_l1 fuel n ws (fun (x17 : Nat) (x18 : List Int) => (refPlacesF_s3 x18 x17 (fun (a19 : List Int) => r0 a19))) fuel a14 a15 a16)))
theorem refPlacesF_eq (fuel : Nat) (n : Int) (ws : List Int) : callN Tryd.prog mode8 T_First fuel 110 [.agg [.s (.int .i64 n), .li .u64 ws]] [] = refPlacesF fuel n ws (fun (z0 : List Int) => some (.li .i64 z0, [])) := by
  unfold refPlacesF
  exact (refPlacesF_s1_eq fuel  n ws).trans (congr (Eq.refl (refPlacesF_s1 (R := Out) n ws)) (funext fun a14 => funext fun a15 => funext fun a16 => (refPlacesF_l1_eq fuel n ws (kont (fnX Tryd.prog mode8 T_First fuel 21 0) (bodyOf Tryd.prog 110) [1, 1, 0, 1, 0] 4 (endK Tryd.prog 0 0 110)) fuel a14 a15 a16).trans (congrFun (congrFun (congrFun (congrFun (congr (Eq.refl (refPlacesF_l1 (R := Out) fuel n ws)) (funext fun x17 => funext fun x18 => (refPlacesF_s3_eq fuel  x18 x17))) fuel) a14) a15) a16)))
theorem refPlaces_loop {R : Type} (fuel m : Nat) (ws : List Int) (hok : okW ws = true) (hm : m ≤ 64 * ws.length) (hx : ws.length ≤ 1000) (k0 : Nat → List Int → Option R) : ∀ (k j : Nat), j ≤ m → m < j + k → refPlacesF_l1 fuel (m : Int) ws k0 k (plc (val ws) j).length (j : Int) (plc (val ws) j) = k0 (plc (val ws) m).length (plc (val ws) m)
  | 0, j, h1, h2 => by omega
  | k + 1, j, h1, h2 => by
    unfold refPlacesF_l1 refPlacesF_s2
    rw [br_if]
    by_cases hc : j < m
    · have hl : (plc (val ws) j).length ≤ j := by rw [plc_length]; exact Pop.cnt_le _ _
      have ih := refPlaces_loop fuel m ws hok hm hx k0 k (j + 1) (by omega) (by omega)
      rw [plc_succ] at ih
      rw [if_pos (by simpa using hc), grd_of (by rw [hok]; simp; omega), br_if, bitS_eq, wrap_i64 (by omega) (by omega), show (j : Int) + 1 = ((j + 1 : Nat) : Int) by omega]
      unfold bitI
      rw [Int.toNat_natCast]
      by_cases hb : (val ws).testBit j = true
      · rw [if_pos hb] at ih
        rw [if_pos hb, if_pos (by decide), grd_of (beq_self _), grd_of (okN_of (by omega) (by omega))]
        exact ih
      · rw [if_neg hb, List.append_nil] at ih
        rw [if_neg hb, if_neg (by decide)]
        exact ih
    · have e : j = m := by omega
      subst e
      rw [if_neg (by simp)]
theorem refPlaces_fact (n : Int) (ws : List Int) (hg : (okW ws && decide (n ≤ 64 * (ws.length : Int)) && decide (ws.length ≤ 1000)) = true) : Fact Tryd.prog gTab 110 [.agg [.s (.int .i64 n), .li .u64 ws]] [] (.li .i64 (plcR n ws), []) := by
  simp only [Bool.and_eq_true, decide_eq_true_eq] at hg
  obtain ⟨⟨hok, hm⟩, hx⟩ := hg
  rw [plcR_eq]
  unfold plcRI
  by_cases h0 : 0 ≤ n
  · obtain ⟨j, rfl⟩ : ∃ j : Nat, n = (j : Int) := ⟨n.toNat, by omega⟩
    refine callN_fact hN hM T_First_ok (n := j + 1) (mode := mode8) ?_
    rw [refPlacesF_eq]
    unfold refPlacesF refPlacesF_s1
    dsimp only
    have := refPlaces_loop (R := Out) (j + 1) j ws hok (by omega) hx
    refine (this _ (j + 1) 0 (by omega) (by omega)).trans ?_
    unfold refPlacesF_s3
    rw [List.drop_zero, List.take_length, Int.toNat_natCast]
  · rw [show n.toNat = 0 by omega]
    refine callN_fact hN hM T_First_ok (n := 1) (mode := mode8) ?_
    rw [refPlacesF_eq]
    unfold refPlacesF refPlacesF_s1 refPlacesF_l1 refPlacesF_s2
    dsimp only
    rw [br_if, if_neg (by simp; omega)]
    rfl
noncomputable def refPlaces_ent : List V → List Blk → Option (Bool × Out)
  | [.agg [.s (.int .i64 n), w0]], [] => (asSl (.int .u64) w0).bind fun ws => some ((okW ws && decide (n ≤ 64 * (ws.length : Int)) && decide (ws.length ≤ 1000)), (.li .i64 (plcR n ws), []))
  | _, _ => none
theorem refPlaces_ok : ∀ args bs out, refPlaces_ent args bs = some (true, out) → Fact Tryd.prog gTab 110 args bs out := by
  intro args bs out h
  unfold refPlaces_ent at h
  split at h
  · rename_i n w0
    obtain ⟨ws, h_ws, h⟩ := Option.bind_eq_some_iff.1 h
    simp only [Option.some.injEq, Prod.mk.injEq] at h
    obtain ⟨hg, rfl⟩ := h
    exact (refPlaces_fact n ws hg).args (fun _ _ _ => fun _ h => RVs_two (fun _ h => RV_agg_two (fun _ h => RVs_two (fun _ h => h) (fun _ h => RVs_two (fun _ h => RV_li h_ws h) (fun _ h => h) h) h) h) (fun _ h => h) h)
  · cases h
noncomputable def T_refPlaces : Tbl := Tbl.cons 110 refPlaces_ent T_First
theorem T_refPlaces_ok : CallOk Tryd.prog gTab T_refPlaces := cons_ok T_First_ok refPlaces_ok
/-! downpour/downpourref01.Xor -/
noncomputable def refXorF_s2 {R : Type} (w3 : Int) (n : Int) (a : List Int) (b : List Int) (w4 : List Int) (w2 : Nat) (m : Int) (c0 : Nat → Int → List Int → Option R) (c1 : Nat → List Int → Option R) : Option R :=
  br (decide (w3 < n))
    (grd (okW a && decide (0 ≤ w3) && decide (w3 < 64 * (a.length : Int)) && decide (a.length ≤ 1000000)) <|
    grd (okW b && decide (0 ≤ w3) && decide (w3 < 64 * (b.length : Int)) && decide (b.length ≤ 1000000)) <|
    bnd (divI .rem .i64 (IntKind.i64.wrap ((bitS a w3) + (bitS b w3))) 2) fun v8 =>
    grd (Nat.beq w4.length w2) <|
    grd (okN (w2 + 1) 8) <|
    c0 ((w4 ++ [v8]).length) (IntKind.i64.wrap (w3 + 1)) (w4 ++ [v8]))
    (c1 w2 w4)
theorem refXorF_s2_eq (fuel : Nat) (k : Nat) (K : Ex → St → Option Out) (w3 : Int) (n : Int) (a : List Int) (b : List Int) (w4 : List Int) (w2 : Nat) (m : Int) : lpN (sub (bodyOf Tryd.prog 184) [1, 1, 0, 1, 0, 0]) (fnX Tryd.prog mode8 T_refPlaces fuel 27 0) 100663344 [2, 3, 4, 5, 6] (k + 1) ⟨[(2, .ptr 0 2 0 0), (3, .ptr 1 2 0 0), (4, .ptr 2 2 0 0), (5, .sl 3 1 0 w2), (6, .s (.int .i64 w3))], [(0, some ⟨29, .agg [.s (.int .i64 n), .li .u64 a], true⟩), (1, some ⟨29, .agg [.s (.int .i64 m), .li .u64 b], true⟩), (2, some ⟨29, .agg [.s (.int .i64 0), .s (.slice none 0 0)], true⟩), (3, some ⟨3, .li .i64 w4, true⟩)], 4, none⟩ K = refXorF_s2 w3 n a b w4 w2 m (fun (a9 : Nat) (a10 : Int) (a11 : List Int) => lpN (sub (bodyOf Tryd.prog 184) [1, 1, 0, 1, 0, 0]) (fnX Tryd.prog mode8 T_refPlaces fuel 27 0) 100663344 [2, 3, 4, 5, 6] k ⟨[(2, .ptr 0 2 0 0), (3, .ptr 1 2 0 0), (4, .ptr 2 2 0 0), (5, .sl 3 1 0 a9), (6, .s (.int .i64 a10))], [(0, some ⟨29, .agg [.s (.int .i64 n), .li .u64 a], true⟩), (1, some ⟨29, .agg [.s (.int .i64 m), .li .u64 b], true⟩), (2, some ⟨29, .agg [.s (.int .i64 0), .s (.slice none 0 0)], true⟩), (3, some ⟨3, .li .i64 a11, true⟩)], 4, none⟩ K) (fun (a12 : Nat) (a13 : List Int) => K (.exit 0) ⟨[(4, .ptr 0 2 0 0), (5, .sl 1 1 0 a12)], [(0, some ⟨29, .agg [.s (.int .i64 0), .s (.slice none 0 0)], true⟩), (1, some ⟨3, .li .i64 a13, true⟩)], 2, none⟩) := by kernel_rfl
noncomputable def refXorF_l1 {R : Type} (fuel : Nat) (n : Int) (a : List Int) (m : Int) (b : List Int) (k0 : Nat → List Int → Option R) : Nat → Nat → Int → List Int → Option R
  | 0, _, _, _ => none
  | k + 1, w2, w3, w4 =>
    (refXorF_s2 w3 n a b w4 w2 m (fun (a9 : Nat) (a10 : Int) (a11 : List Int) => ( refXorF_l1 fuel n a m b k0 k a9 a10 a11 )) (fun (a12 : Nat) (a13 : List Int) => k0 a12 a13))
theorem refXorF_l1_eq (fuel : Nat) (n : Int) (a : List Int) (m : Int) (b : List Int) (K : Ex → St → Option Out) : ∀ (k : Nat) (w2 : Nat) (w3 : Int) (w4 : List Int), lpN (sub (bodyOf Tryd.prog 184) [1, 1, 0, 1, 0, 0]) (fnX Tryd.prog mode8 T_refPlaces fuel 27 0) 100663344 [2, 3, 4, 5, 6] k ⟨[(2, .ptr 0 2 0 0), (3, .ptr 1 2 0 0), (4, .ptr 2 2 0 0), (5, .sl 3 1 0 w2), (6, .s (.int .i64 w3))], [(0, some ⟨29, .agg [.s (.int .i64 n), .li .u64 a], true⟩), (1, some ⟨29, .agg [.s (.int .i64 m), .li .u64 b], true⟩), (2, some ⟨29, .agg [.s (.int .i64 0), .s (.slice none 0 0)], true⟩), (3, some ⟨3, .li .i64 w4, true⟩)], 4, none⟩ K = refXorF_l1 fuel n a m b (fun (y6 : Nat) (y7 : List Int) => K (.exit 0) ⟨[(4, .ptr 0 2 0 0), (5, .sl 1 1 0 y6)], [(0, some ⟨29, .agg [.s (.int .i64 0), .s (.slice none 0 0)], true⟩), (1, some ⟨3, .li .i64 y7, true⟩)], 2, none⟩) k w2 w3 w4
  | 0, _, _, _ => rfl
  | k + 1, w2, w3, w4 => by
    unfold refXorF_l1
    exact (refXorF_s2_eq fuel k K w3 n a b w4 w2 m).trans (congr (congr (Eq.refl (refXorF_s2 (R := Out) w3 n a b w4 w2 m)) (funext fun a9 => funext fun a10 => funext fun a11 => refXorF_l1_eq fuel n a m b K k a9 a10 a11)) (rfl))
noncomputable def refXorF_s3 {R : Type} (x18 : List Int) (x17 : Nat) (c0 : Int → List Int → Option R) : Option R :=
  grd (decide (((x18.drop 0).take x17).length ≤ 512)) <|
  c0 ((((x18.drop 0).take x17).length : Nat) : Int) (fromS ((x18.drop 0).take x17))
theorem refXorF_s3_eq (fuel : Nat)  (x18 : List Int) (x17 : Nat) : (kont (fnX Tryd.prog mode8 T_refPlaces fuel 27 0) (bodyOf Tryd.prog 184) [1, 1, 0, 1, 0] 16 (endK Tryd.prog 0 0 184)) (.exit 0) ⟨[(4, .ptr 0 2 0 0), (5, .sl 1 1 0 x17)], [(0, some ⟨29, .agg [.s (.int .i64 0), .s (.slice none 0 0)], true⟩), (1, some ⟨3, .li .i64 x18, true⟩)], 2, none⟩ = refXorF_s3 x18 x17 (fun (a19 : Int) (a20 : List Int) => some (.agg [.s (.int .i64 a19), .li .u64 a20], [])) := by kernel_rfl
noncomputable def refXorF_s1 {R : Type} (n : Int) (a : List Int) (m : Int) (b : List Int) (c0 : Nat → Int → List Int → Option R) : Option R :=
  c0 0 0 ([])
theorem refXorF_s1_eq (fuel : Nat)  (n : Int) (a : List Int) (m : Int) (b : List Int) : callN Tryd.prog mode8 T_refPlaces fuel 184 [.agg [.s (.int .i64 n), .li .u64 a], .agg [.s (.int .i64 m), .li .u64 b]] [] = refXorF_s1 n a m b (fun (a14 : Nat) (a15 : Int) (a16 : List Int) => lpN (sub (bodyOf Tryd.prog 184) [1, 1, 0, 1, 0, 0]) (fnX Tryd.prog mode8 T_refPlaces fuel 27 0) 100663344 [2, 3, 4, 5, 6] fuel ⟨[(2, .ptr 0 2 0 0), (3, .ptr 1 2 0 0), (4, .ptr 2 2 0 0), (5, .sl 3 1 0 a14), (6, .s (.int .i64 a15))], [(0, some ⟨29, .agg [.s (.int .i64 n), .li .u64 a], true⟩), (1, some ⟨29, .agg [.s (.int .i64 m), .li .u64 b], true⟩), (2, some ⟨29, .agg [.s (.int .i64 0), .s (.slice none 0 0)], true⟩), (3, some ⟨3, .li .i64 a16, true⟩)], 4, none⟩ (kont (fnX Tryd.prog mode8 T_refPlaces fuel 27 0) (bodyOf Tryd.prog 184) [1, 1, 0, 1, 0] 16 (endK Tryd.prog 0 0 184))) := by kernel_rfl
noncomputable def refXorF {R : Type} (fuel : Nat) (n : Int) (a : List Int) (m : Int) (b : List Int) (r0 : Int → List Int → Option R) : Option R :=
  (refXorF_s1 n a m b (fun (a14 : Nat) (a15 : Int) (a16 : List Int) => (refXorF_l1 fuel n a m b (fun (x17 : Nat) (x18 : List Int) => (refXorF_s3 x18 x17 (fun (a19 : Int) (a20 : List Int) => r0 a19 a20))) fuel a14 a15 a16)))
theorem refXorF_eq (fuel : Nat) (n : Int) (a : List Int) (m : Int) (b : List Int) : callN Tryd.prog mode8 T_refPlaces fuel 184 [.agg [.s (.int .i64 n), .li .u64 a], .agg [.s (.int .i64 m), .li .u64 b]] [] = refXorF fuel n a m b (fun (z0 : Int) (z1 : List Int) => some (.agg [.s (.int .i64 z0), .li .u64 z1], [])) := by
  unfold refXorF
  exact (refXorF_s1_eq fuel  n a m b).trans (congr (Eq.refl (refXorF_s1 (R := Out) n a m b)) (funext fun a14 => funext fun a15 => funext fun a16 => (refXorF_l1_eq fuel n a m b (kont (fnX Tryd.prog mode8 T_refPlaces fuel 27 0) (bodyOf Tryd.prog 184) [1, 1, 0, 1, 0] 16 (endK Tryd.prog 0 0 184)) fuel a14 a15 a16).trans (congrFun (congrFun (congrFun (congrFun (congr (Eq.refl (refXorF_l1 (R := Out) fuel n a m b)) (funext fun x17 => funext fun x18 => (refXorF_s3_eq fuel  x18 x17))) fuel) a14) a15) a16)))
def xbit (a b : List Int) (i : Nat) : Int := (bitI a (i : Int) + bitI b (i : Int)) % 2
theorem bit_range (a : List Int) (i : Int) : 0 ≤ bitI a i ∧ bitI a i ≤ 1 := by unfold bitI; split <;> omega
theorem refXor_loop {R : Type} (fuel N : Nat) (m : Int) (a b : List Int) (ha : okW a = true) (hb : okW b = true) (hl : a.length = b.length) (hm : N ≤ 64 * a.length) (hx : a.length ≤ 8) (k0 : Nat → List Int → Option R) : ∀ (k j : Nat), j ≤ N → N < j + k → refXorF_l1 fuel (N : Int) a m b k0 k j (j : Int) ((List.range j).map (xbit a b)) = k0 N ((List.range N).map (xbit a b))
  | 0, j, h1, h2 => by omega
  | k + 1, j, h1, h2 => by
    unfold refXorF_l1 refXorF_s2
    rw [br_if]
    by_cases hc : j < N
    · have r1 := bit_range a (j : Int)
      have r2 := bit_range b (j : Int)
      have e : (List.range j).map (xbit a b) ++ [xbit a b j] = (List.range (j + 1)).map (xbit a b) := by rw [List.range_succ, List.map_append]; rfl
      have ed : divI .rem .i64 (bitI a (j : Int) + bitI b (j : Int)) 2 = some (xbit a b j) := rem_pos (by omega) (by decide)
      rw [if_pos (by simpa using hc), grd_of (by rw [ha]; simp; omega), grd_of (by rw [hb]; simp; omega), bitS_eq, wrap_i64 (x := bitI a (j : Int) + bitI b (j : Int)) (by omega) (by omega), bnd_of ed, grd_of (by rw [List.length_map, List.length_range]; exact beq_self j), grd_of (okN_of (by omega) (by omega)), e, List.length_map, List.length_range, wrap_i64 (by omega) (by omega), show (j : Int) + 1 = ((j + 1 : Nat) : Int) by omega]
      exact refXor_loop fuel N m a b ha hb hl hm hx k0 k (j + 1) (by omega) (by omega)
    · have e : j = N := by omega
      subst e
      rw [if_neg (by simp)]
theorem refXor_fact (n : Int) (a : List Int) (m : Int) (b : List Int) (hg : (rtS n a && rtS m b && decide (n = m) && okW a && okW b) = true) : Fact Tryd.prog gTab 184 [.agg [.s (.int .i64 n), .li .u64 a], .agg [.s (.int .i64 m), .li .u64 b]] [] (.agg [.s (.int .i64 n), .li .u64 (xorW n a m b)], []) := by
  simp only [Bool.and_eq_true, decide_eq_true_eq] at hg
  obtain ⟨⟨⟨⟨h1, h2⟩, h3⟩, ha⟩, hb⟩ := hg
  have hl : a.length = b.length := by rw [rt_lens h1, rt_lens h2, h3]
  have hx := rt_le h1
  obtain ⟨⟨h0, h512⟩, hlen, hlt⟩ := rtS_iff.1 h1
  have hltb := rt_lt h2
  have hw := nw_cast h0
  obtain ⟨v1, v2, v3⟩ := xor_val ha hb h1 h2 h3
  obtain ⟨N, rfl⟩ : ∃ N : Nat, n = (N : Int) := ⟨n.toNat, by omega⟩
  refine callN_fact hN hM T_refPlaces_ok (n := N + 1) (mode := mode8) ?_
  rw [refXorF_eq]
  unfold refXorF refXorF_s1
  dsimp only
  have := refXor_loop (R := Out) (N + 1) N m a b ha hb hl (by omega) hx
  refine (this _ (N + 1) 0 (by omega) (by omega)).trans ?_
  unfold refXorF_s3
  have hlr : ((List.range N).map (xbit a b)).length = N := by rw [List.length_map, List.length_range]
  rw [List.drop_zero, List.take_of_length_le (by omega), grd_of (by simp [hlr]; omega), hlr]
  have e : fromS ((List.range N).map (xbit a b)) = xorW (N : Int) a m b := by
    rw [fromS_eq]
    unfold fromI
    rw [hlr, ← words_val v1, v3, v2]
    congr 1
    refine Nat.eq_of_testBit_eq fun i => ?_
    rw [testBit_bn, Nat.testBit_xor, List.getD_eq_getElem?_getD, List.getElem?_map]
    by_cases hi : i < N
    · rw [List.getElem?_range hi]
      show decide (xbit a b i = 1) = _
      unfold xbit bitI
      rw [Int.toNat_natCast]
      cases (val a).testBit i <;> cases (val b).testBit i <;> rfl
    · rw [List.getElem?_eq_none (by rw [List.length_range]; omega)]
      have z1 : (val a).testBit i = false := Nat.testBit_lt_two_pow (Nat.lt_of_lt_of_le hlt (Nat.pow_le_pow_right (by omega) (by omega)))
      have z2 : (val b).testBit i = false := Nat.testBit_lt_two_pow (Nat.lt_of_lt_of_le hltb (Nat.pow_le_pow_right (by omega) (by omega)))
      rw [z1, z2]; rfl
  rw [e]
noncomputable def refXor_ent : List V → List Blk → Option (Bool × Out)
  | [.agg [.s (.int .i64 n), w0], .agg [.s (.int .i64 m), w1]], [] => (asSl (.int .u64) w0).bind fun a => (asSl (.int .u64) w1).bind fun b => some ((rtS n a && rtS m b && decide (n = m) && okW a && okW b), (.agg [.s (.int .i64 n), .li .u64 (xorW n a m b)], []))
  | _, _ => none
theorem refXor_ok : ∀ args bs out, refXor_ent args bs = some (true, out) → Fact Tryd.prog gTab 184 args bs out := by
  intro args bs out h
  unfold refXor_ent at h
  split at h
  · rename_i n w0 m w1
    obtain ⟨a, h_a, h⟩ := Option.bind_eq_some_iff.1 h
    obtain ⟨b, h_b, h⟩ := Option.bind_eq_some_iff.1 h
    simp only [Option.some.injEq, Prod.mk.injEq] at h
    obtain ⟨hg, rfl⟩ := h
    exact (refXor_fact n a m b hg).args (fun _ _ _ => fun _ h => RVs_two (fun _ h => RV_agg_two (fun _ h => RVs_two (fun _ h => h) (fun _ h => RVs_two (fun _ h => RV_li h_a h) (fun _ h => h) h) h) h) (fun _ h => RVs_two (fun _ h => RV_agg_two (fun _ h => RVs_two (fun _ h => h) (fun _ h => RVs_two (fun _ h => RV_li h_b h) (fun _ h => h) h) h) h) (fun _ h => h) h) h)
  · cases h
noncomputable def T_refXor : Tbl := Tbl.cons 184 refXor_ent T_refPlaces
theorem T_refXor_ok : CallOk Tryd.prog gTab T_refXor := cons_ok T_refPlaces_ok refXor_ok
end Go.Proofs.YtleagoeimkcekaaDoor
