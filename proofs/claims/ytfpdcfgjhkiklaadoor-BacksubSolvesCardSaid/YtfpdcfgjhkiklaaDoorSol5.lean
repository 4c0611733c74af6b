/- The documents own answer for equations. -/
import Derived.Test.YtfpdcfgjhkiklaaDoorPmTab
import Derived.KernelRfl
import Derived.Test.YtfpdcfgjhkiklaaDoorProg
import Derived.Test.YtfpdcfgjhkiklaaDoorSol4
set_option autoImplicit false
set_option maxRecDepth 100000
set_option maxHeartbeats 4000000
set_option linter.unusedVariables false
set_option linter.unusedSimpArgs false
namespace Go.Proofs.YtfpdcfgjhkiklaaDoor
open Go Go.PM Go.Proofs Go.Shelf Go.PM.Row Go.PM.Bits Go.PM.Bit Go.PM.Blk Go.PM.Lin
def mode22 : FuncId → Nat := fun f => 0
/-! The document's answer for equations. -/
def bitTI (s : ByteArray) (i : Int) : Int := if (((bytesL s).getD (i.toNat / 8) 0).toNat).testBit (i.toNat % 8) = true then 1 else 0
noncomputable def bitT : ByteArray → Int → Int := Classical.choose (⟨bitTI, rfl⟩ : ∃ f, f = bitTI)
theorem bitT_eq : bitT = bitTI := Classical.choose_spec (⟨bitTI, rfl⟩ : ∃ f, f = bitTI)
noncomputable def byteAt (s : ByteArray) (q : Int) : Nat := ((bytesL s).getD q.toNat 0).toNat
noncomputable def partU (z : Int) (m : List Rw) (l : List ByteArray) (q : Int) : List Nat := m.zipWith (fun r s => aug z.toNat (val r.2) (byteAt s q)) l
noncomputable def partMI (z : Int) (m : List Rw) (l : List ByteArray) (q : Int) : List Rw := mrs (z + 8) (Lin.rows (red (partU z m l q)))
noncomputable def partM : Int → List Rw → List ByteArray → Int → List Rw := Classical.choose (⟨partMI, rfl⟩ : ∃ f, f = partMI)
theorem partM_eq : partM = partMI := Classical.choose_spec (⟨partMI, rfl⟩ : ∃ f, f = partMI)
theorem aug_bit {N v s i : Nat} (hv : v < 2 ^ N) : (aug N v s).testBit i = if i < N then v.testBit i else s.testBit (i - N) := by unfold aug; exact Nat.testBit_two_pow_mul_add _ hv _
noncomputable def bits8 (s : ByteArray) (q : Int) (c : Nat) : List Int := (List.range c).map fun (k : Nat) => bitT s (8 * q + (k : Int))
theorem bits8_len (s : ByteArray) (q : Int) (c : Nat) : (bits8 s q c).length = c := by unfold bits8; simp
theorem bits8_succ (s : ByteArray) (q : Int) (c : Nat) : bits8 s q (c + 1) = bits8 s q c ++ [bitT s (8 * q + (c : Int))] := by unfold bits8; rw [List.range_succ, List.map_append]; rfl
theorem byteAt_lt (s : ByteArray) (q : Int) : byteAt s q < 256 := by
  unfold byteAt
  have := getD_ok (bytes_ok s) q.toNat
  omega
theorem part_row {z : Int} (h0 : 0 ≤ z) (h1 : z ≤ 64) {ws : List Int} (hr : rtS z ws = true) (s : ByteArray) {q : Int} (hq : 0 ≤ q) : fromS (bitsR z ws ++ bits8 s q 8) = words (nw (z + 8)) (aug z.toNat (val ws) (byteAt s q)) ∧ aug z.toNat (val ws) (byteAt s q) < 2 ^ (z + 8).toNat := by
  have hv : val ws < 2 ^ z.toNat := (rtS_iff.1 hr).2.2
  have hlt : aug z.toNat (val ws) (byteAt s q) < 2 ^ (z + 8).toNat := by
    have := aug_lt (M := 8) hv (byteAt_lt s q)
    rwa [show (z + 8).toNat = z.toNat + 8 by omega]
  refine ⟨?_, hlt⟩
  have hl : (bitsR z ws ++ bits8 s q 8).length = z.toNat + 8 := by rw [List.length_append, bitsR_len, bits8_len]
  rw [fromS_eq]; unfold fromI
  rw [hl, show (((z.toNat + 8 : Nat)) : Int) = z + 8 by omega]
  congr 1
  refine Nat.eq_of_testBit_eq fun i => ?_
  rw [testBit_bn, aug_bit hv]
  by_cases hi : i < z.toNat
  · have e : (bitsR z ws ++ bits8 s q 8).getD i 0 = if (val ws).testBit i = true then 1 else 0 := by
      rw [List.getD_eq_getElem?_getD, List.getElem?_append_left (by rw [bitsR_len]; exact hi), bitsR_eq]
      unfold bitsRI bitI
      rw [List.getElem?_map, List.getElem?_range hi]
      show (if (val ws).testBit ((i : Nat) : Int).toNat = true then (1 : Int) else 0) = _
      rw [Int.toNat_natCast]
    rw [if_pos hi, e]
    cases (val ws).testBit i <;> simp
  · rw [if_neg hi]
    by_cases h8 : i - z.toNat < 8
    · have e : (bitsR z ws ++ bits8 s q 8).getD i 0 = bitT s (8 * q + ((i - z.toNat : Nat) : Int)) := by
        rw [List.getD_eq_getElem?_getD, List.getElem?_append_right (by rw [bitsR_len]; omega), bitsR_len]
        unfold bits8
        rw [List.getElem?_map, List.getElem?_range h8]
        rfl
      rw [e, bitT_eq]; unfold bitTI byteAt
      rw [show (8 * q + ((i - z.toNat : Nat) : Int)).toNat / 8 = q.toNat by omega, show (8 * q + ((i - z.toNat : Nat) : Int)).toNat % 8 = i - z.toNat by omega]
      cases (((bytesL s).getD q.toNat 0).toNat).testBit (i - z.toNat) <;> simp
    · have e : (bitsR z ws ++ bits8 s q 8).getD i 0 = 0 := by
        rw [List.getD_eq_getElem?_getD, List.getElem?_eq_none (by omega)]; rfl
      rw [e, Nat.testBit_lt_two_pow (Nat.lt_of_lt_of_le (byteAt_lt s q) (by rw [show (256 : Nat) = 2 ^ 8 from rfl]; exact Nat.pow_le_pow_right (by decide) (by omega)))]
      rfl
theorem partU_len {z : Int} {m : List Rw} {l : List ByteArray} {q : Int} (h : l.length = m.length) : (partU z m l q).length = m.length := by unfold partU; rw [List.length_zipWith]; omega
theorem partU_get {z : Int} {m : List Rw} {l : List ByteArray} {q : Int} {j : Nat} (hm : j < m.length) (hl : j < l.length) : (partU z m l q)[j]? = some (aug z.toNat (val (m[j]).2) (byteAt l[j] q)) := by
  unfold partU
  rw [List.getElem?_zipWith, List.getElem?_eq_getElem hm, List.getElem?_eq_getElem hl]
noncomputable def toldI (n : Int) (r : List Rw) (i : Int) : Bool := decide (left (wR (vals r)) (2 ^ i.toNat) = 0)
noncomputable def toldB : Int → List Rw → Int → Bool := Classical.choose (⟨toldI, rfl⟩ : ∃ f, f = toldI)
theorem toldB_eq : toldB = toldI := Classical.choose_spec (⟨toldI, rfl⟩ : ∃ f, f = toldI)
noncomputable def byteI (n : Int) (r : List Rw) (i : Int) : Int := match (vals r).find? (fun v => fp v == i.toNat) with
  | some v => ((hi n.toNat v : Nat) : Int)
  | none => 0
noncomputable def byteS : Int → List Rw → Int → Int := Classical.choose (⟨byteI, rfl⟩ : ∃ f, f = byteI)
theorem byteS_eq : byteS = byteI := Classical.choose_spec (⟨byteI, rfl⟩ : ∃ f, f = byteI)
noncomputable def kRI (z : Int) (m : List Rw) (l : List ByteArray) : List (Nat × Nat) := (red (augs z m l)).filter (isTold z)
noncomputable def kR : Int → List Rw → List ByteArray → List (Nat × Nat) := Classical.choose (⟨kRI, rfl⟩ : ∃ f, f = kRI)
theorem kR_eq : kR = kRI := Classical.choose_spec (⟨kRI, rfl⟩ : ∃ f, f = kRI)
noncomputable def kAI (z : Int) (m : List Rw) (l : List ByteArray) : List Int := (kR z m l).map fun x => (x.1 : Int)
noncomputable def kA : Int → List Rw → List ByteArray → List Int := Classical.choose (⟨kAI, rfl⟩ : ∃ f, f = kAI)
theorem kA_eq : kA = kAI := Classical.choose_spec (⟨kAI, rfl⟩ : ∃ f, f = kAI)
noncomputable def kLI (z : Int) (m : List Rw) (n : Int) (l : List ByteArray) : List ByteArray := (kR z m l).map fun x => txt (byts n.toNat (hi z.toNat x.2))
noncomputable def kL : Int → List Rw → Int → List ByteArray → List ByteArray := Classical.choose (⟨kLI, rfl⟩ : ∃ f, f = kLI)
theorem kL_eq : kL = kLI := Classical.choose_spec (⟨kLI, rfl⟩ : ∃ f, f = kLI)
/-! downpour/downpourref05.Why -/
noncomputable def r5WhyF_s1 {R : Type} (n : Int) (l : List ByteArray) (m : List (Int × List Int)) (z : Int) (c0 : Int → Option R) : Option R :=
  br (((errB n l) : Int) != 0)
    (c0 2)
    (br ((((l.length : Nat) : Int) : Int) != ((m.length : Nat) : Int))
      (c0 2)
      (c0 0))
theorem r5WhyF_s1_eq (fuel : Nat)  (n : Int) (l : List ByteArray) (m : List (Int × List Int)) (z : Int) : callN Tryd.prog mode22 T_r4Ech fuel 32 [.agg [vI z, vR m], vI n, .ls l] [] = r5WhyF_s1 n l m z (fun a1 => some (vI a1, [])) := by kernel_rfl
noncomputable def r5WhyF {R : Type} (fuel : Nat) (z : Int) (m : List (Int × List Int)) (n : Int) (l : List ByteArray) (r0 : Int → Option R) : Option R :=
  (r5WhyF_s1 n l m z (fun a1 => r0 a1))
theorem r5WhyF_eq (fuel : Nat) (z : Int) (m : List (Int × List Int)) (n : Int) (l : List ByteArray) : callN Tryd.prog mode22 T_r4Ech fuel 32 [.agg [.s (.int .i64 z), .lt (.pair (.int .i64) (.sl (.int .u64))) m], .s (.int .i64 n), .ls l] [] = r5WhyF fuel z m n l (fun z0 => some (.s (.int .i64 z0), [])) := by
  unfold r5WhyF
  exact (r5WhyF_s1_eq fuel  n l m z)
theorem r5Why_fact (z : Int) (m : List (Int × List Int)) (n : Int) (l : List ByteArray) : Fact Tryd.prog noG 32 [.agg [.s (.int .i64 z), .lt (.pair (.int .i64) (.sl (.int .u64))) m], .s (.int .i64 n), .ls l] [] (.s (.int .i64 (if bok n l = true ∧ l.length = m.length then 0 else 2)), []) := by
  refine callN_fact hN hM T_r4Ech_ok (n := 0) (mode := mode22) ?_
  rw [r5WhyF_eq]
  unfold r5WhyF r5WhyF_s1
  unfold errB
  rw [br_if, br_if]
  by_cases hb : bok n l = true
  · rw [if_pos hb, if_neg (by decide)]
    by_cases hl : l.length = m.length
    · rw [if_neg (by simp [hl]), if_pos ⟨hb, hl⟩]
    · rw [if_pos (by simp; omega), if_neg (fun h => hl h.2)]
  · rw [if_neg hb, if_pos (by decide), if_neg (fun h => hb h.1)]
noncomputable def r5Why_ent : List V → List Blk → Option (Bool × Out)
  | [.agg [.s (.int .i64 z), w0], .s (.int .i64 n), w1], [] => (asSl (.pair (.int .i64) (.sl (.int .u64))) w0).bind fun m => (asSl .str w1).bind fun l => some (true, (.s (.int .i64 (if bok n l = true ∧ l.length = m.length then 0 else 2)), []))
  | _, _ => none
theorem r5Why_ok : ∀ args bs out, r5Why_ent args bs = some (true, out) → Fact Tryd.prog noG 32 args bs out := by
  intro args bs out h
  unfold r5Why_ent at h
  split at h
  · rename_i z w0 n w1
    obtain ⟨m, h_m, h⟩ := Option.bind_eq_some_iff.1 h
    obtain ⟨l, h_l, h⟩ := Option.bind_eq_some_iff.1 h
    simp only [Option.some.injEq, Prod.mk.injEq] at h
    obtain ⟨_, rfl⟩ := h
    exact (r5Why_fact z m n l).args (fun _ _ _ => fun _ h => RVs_two (fun _ h => RV_agg_two (fun _ h => RVs_two (fun _ h => h) (fun _ h => RVs_two (fun _ h => RV_sl (s := (.pair (.int .i64) (.sl (.int .u64)))) h_m h) (fun _ h => h) h) h) h) (fun _ h => RVs_two (fun _ h => h) (fun _ h => RVs_two (fun _ h => RV_ls h_l h) (fun _ h => h) h) h) h)
  · cases h
noncomputable def T_r5Why : Tbl := Tbl.cons 32 r5Why_ent T_r4Ech
theorem T_r5Why_ok : CallOk Tryd.prog noG T_r5Why := cons_ok T_r4Ech_ok r5Why_ok
/-! downpour/downpourref05.bit -/
noncomputable def r5bitF_s2 {R : Type} (i w6 w7 : Int) (c0 : Int → Int → Option R) (c1 : Int → Option R) : Option R :=
  bnd (divI .rem .i64 i 8) fun v11 =>
  br (decide (w6 < v11))
    (bnd (divI .quo .i64 w7 2) fun v12 =>
    c0 v12 (IntKind.i64.wrap (w6 + 1)))
    (c1 w7)
theorem r5bitF_s2_eq (fuel k : Nat) (K : Ex → St → Option Out) (i w6 w7 : Int) : lpN (sub (bodyOf Tryd.prog 131) [1, 1, 0, 1, 0, 0]) (fnX Tryd.prog mode22 T_r5Why fuel 22 0) 3145776 [1, 4, 5, 6] (k + 1) ⟨[(1, vI i), (4, vI 0), (5, vI w7), (6, vI w6)], [], 0, none⟩ K = r5bitF_s2 i w6 w7 (fun a0 a1 => lpN (sub (bodyOf Tryd.prog 131) [1, 1, 0, 1, 0, 0]) (fnX Tryd.prog mode22 T_r5Why fuel 22 0) 3145776 [1, 4, 5, 6] k ⟨[(1, vI i), (4, vI 0), (5, vI a0), (6, vI a1)], [], 0, none⟩ K) (fun a2 => K (.exit 0) ⟨[(4, vI 0), (5, vI a2)], [], 0, none⟩) := by kernel_rfl
noncomputable def r5bitF_l1 {R : Type} (fuel : Nat) (i : Int) (k0 : Int → Option R) : Nat → Int → Int → Option R
  | 0, _, _ => none
  | k + 1, w7, w6 =>
    (r5bitF_s2 i w6 w7 (fun a0 a1 => ( r5bitF_l1 fuel i k0 k a0 a1 )) (fun a2 => k0 a2))
theorem r5bitF_l1_eq (fuel : Nat) (i : Int) (K : Ex → St → Option Out) : ∀ (k : Nat) (w7 w6 : Int), lpN (sub (bodyOf Tryd.prog 131) [1, 1, 0, 1, 0, 0]) (fnX Tryd.prog mode22 T_r5Why fuel 22 0) 3145776 [1, 4, 5, 6] k ⟨[(1, vI i), (4, vI 0), (5, vI w7), (6, vI w6)], [], 0, none⟩ K = r5bitF_l1 fuel i (fun y0 => K (.exit 0) ⟨[(4, vI 0), (5, vI y0)], [], 0, none⟩) k w7 w6
  | 0, _, _ => rfl
  | k + 1, w7, w6 => by
    unfold r5bitF_l1
    exact (r5bitF_s2_eq fuel k K i w6 w7).trans (congr (congr (Eq.refl (r5bitF_s2 (R := Out) i w6 w7)) (funext fun a0 => funext fun a1 => r5bitF_l1_eq fuel i K k a0 a1)) (rfl))
noncomputable def r5bitF_s3 {R : Type} (x0 : Int) (c0 : Int → Option R) : Option R :=
  bnd (divI .rem .i64 x0 2) fun v19 =>
  c0 v19
theorem r5bitF_s3_eq (fuel : Nat)  (x0 : Int) : (kont (fnX Tryd.prog mode22 T_r5Why fuel 22 0) (bodyOf Tryd.prog 131) [1, 1, 0, 1, 0] 16 (endK Tryd.prog 0 0 131)) (.exit 0) ⟨[(4, vI 0), (5, vI x0)], [], 0, none⟩ = r5bitF_s3 x0 (fun a0 => some (vI a0, [])) := by kernel_rfl
noncomputable def r5bitF_s1 {R : Type} (i : Int) (s : ByteArray) (c0 : Int → Int → Option R) : Option R :=
  bnd (divI .quo .i64 i 8) fun v1 =>
  bnd (ix s.data.toList v1) fun ub2 =>
  c0 (IntKind.i64.wrap ((ub2.toNat : Nat) : Int)) 0
theorem r5bitF_s1_eq (fuel : Nat)  (i : Int) (s : ByteArray) : callN Tryd.prog mode22 T_r5Why fuel 131 [vS s, vI i] [] = r5bitF_s1 i s (fun a0 a1 => lpN (sub (bodyOf Tryd.prog 131) [1, 1, 0, 1, 0, 0]) (fnX Tryd.prog mode22 T_r5Why fuel 22 0) 3145776 [1, 4, 5, 6] fuel ⟨[(1, vI i), (4, vI 0), (5, vI a0), (6, vI a1)], [], 0, none⟩ (kont (fnX Tryd.prog mode22 T_r5Why fuel 22 0) (bodyOf Tryd.prog 131) [1, 1, 0, 1, 0] 16 (endK Tryd.prog 0 0 131))) := by kernel_rfl
noncomputable def r5bitF {R : Type} (fuel : Nat) (s : ByteArray) (i : Int) (r0 : Int → Option R) : Option R :=
  (r5bitF_s1 i s (fun a0 a1 => (r5bitF_l1 fuel i (fun x0 => (r5bitF_s3 x0 (fun a2 => r0 a2))) fuel a0 a1)))
theorem r5bitF_eq (fuel : Nat) (s : ByteArray) (i : Int) : callN Tryd.prog mode22 T_r5Why fuel 131 [.s (.string s), .s (.int .i64 i)] [] = r5bitF fuel s i (fun z0 => some (.s (.int .i64 z0), [])) := by
  unfold r5bitF
  exact (r5bitF_s1_eq fuel  i s).trans (congr (Eq.refl (r5bitF_s1 (R := Out) i s)) (funext fun a0 => funext fun a1 => (r5bitF_l1_eq fuel i (kont (fnX Tryd.prog mode22 T_r5Why fuel 22 0) (bodyOf Tryd.prog 131) [1, 1, 0, 1, 0] 16 (endK Tryd.prog 0 0 131)) fuel a0 a1).trans (congrFun (congrFun (congrFun (congr (Eq.refl (r5bitF_l1 (R := Out) fuel i)) (funext fun x0 => (r5bitF_s3_eq fuel  x0))) fuel) a0) a1)))
theorem quo2 (x : Nat) (h : x < 256) : divI .quo .i64 (x : Int) 2 = some ((x / 2 : Nat) : Int) := by rw [quo_i64 (by omega) (by omega) (by decide)]; norm_cast
theorem rem2n (x : Nat) : divI .rem .i64 (x : Int) 2 = some ((x % 2 : Nat) : Int) := by rw [rem_pos (by omega) (by decide)]; norm_cast
theorem r5bit_loop {R : Type} (fuel : Nat) (i b : Nat) (hb : b < 256) (k0 : Int → Option R) : ∀ (d k c : Nat), c + d = i % 8 → d < k → r5bitF_l1 fuel (i : Int) k0 k ((b / 2 ^ c : Nat) : Int) (c : Int) = k0 ((b / 2 ^ (i % 8) : Nat) : Int)
  | 0, 0, c, h1, h2 => by omega
  | 0, k + 1, c, h1, h2 => by
    have e2 : divI .rem .i64 (i : Int) 8 = some ((i % 8 : Nat) : Int) := by rw [rem_pos (by omega) (by decide)]; norm_cast
    unfold r5bitF_l1 r5bitF_s2
    rw [bnd_of e2, br_if, if_neg (by simp; omega)]
    have : c = i % 8 := by omega
    rw [this]
  | d + 1, 0, c, h1, h2 => by omega
  | d + 1, k + 1, c, h1, h2 => by
    have e2 : divI .rem .i64 (i : Int) 8 = some ((i % 8 : Nat) : Int) := by rw [rem_pos (by omega) (by decide)]; norm_cast
    have hle : b / 2 ^ c ≤ b := Nat.div_le_self _ _
    have e3 : divI .quo .i64 ((b / 2 ^ c : Nat) : Int) 2 = some ((b / 2 ^ (c + 1) : Nat) : Int) := by
      rw [quo2 _ (Nat.lt_of_le_of_lt hle hb), Nat.pow_succ, Nat.div_div_eq_div_mul]
    unfold r5bitF_l1 r5bitF_s2
    rw [bnd_of e2, br_if, if_pos (by simp; omega), bnd_of e3, wrap_i64 (by omega) (by omega), show (c : Int) + 1 = ((c + 1 : Nat) : Int) by omega]
    exact r5bit_loop fuel i b hb k0 d k (c + 1) (by omega) (by omega)
theorem r5bit_fact (s : ByteArray) (i : Int) (hg : (decide (0 ≤ i) && decide (i < 8 * (s.size : Int)) && decide (s.size ≤ 64)) = true) : Fact Tryd.prog noG 131 [.s (.string s), .s (.int .i64 i)] [] (.s (.int .i64 (bitT s i)), []) := by
  simp only [Bool.and_eq_true, decide_eq_true_eq] at hg
  obtain ⟨⟨h0, h1⟩, h2⟩ := hg
  obtain ⟨j, rfl⟩ : ∃ j : Nat, i = (j : Int) := ⟨i.toNat, by omega⟩
  have hj : j / 8 < s.size := by omega
  obtain ⟨c, e1, e2⟩ := ix_byte s (j / 8) hj
  have hc := getD_ok (bytes_ok s) (j / 8)
  have e0 : divI .quo .i64 (j : Int) 8 = some ((j / 8 : Nat) : Int) := by rw [quo_i64 (by omega) (by omega) (by decide)]; norm_cast
  refine callN_fact hN hM T_r5Why_ok (n := 20) (mode := mode22) ?_
  rw [r5bitF_eq]
  unfold r5bitF r5bitF_s1
  rw [bnd_of e0, bnd_of e1, e2, wrap_i64 (by omega) (by omega)]
  have hl := fun k0 => r5bit_loop (R := Out) 20 j (((bytesL s).getD (j / 8) 0).toNat) (by omega) k0 (j % 8) 20 0 (by omega) (by omega)
  rw [Nat.pow_zero, Nat.div_one, show ((0 : Nat) : Int) = 0 from rfl, nonneg_toNat hc.1] at hl
  dsimp only
  rw [hl]
  unfold r5bitF_s3
  have hle : (((bytesL s).getD (j / 8) 0).toNat) / 2 ^ (j % 8) ≤ (((bytesL s).getD (j / 8) 0).toNat) := Nat.div_le_self _ _
  rw [bnd_of (rem2n _), bitT_eq]
  unfold bitTI
  rw [Int.toNat_natCast, Nat.testBit_eq_decide_div_mod_eq]
  have := Nat.mod_lt ((((bytesL s).getD (j / 8) 0).toNat) / 2 ^ (j % 8)) (show 0 < 2 by decide)
  by_cases h : (((bytesL s).getD (j / 8) 0).toNat) / 2 ^ (j % 8) % 2 = 1
  · rw [if_pos (decide_eq_true h), h]; rfl
  · have h0 : (((bytesL s).getD (j / 8) 0).toNat) / 2 ^ (j % 8) % 2 = 0 := by omega
    rw [if_neg (fun g => h (of_decide_eq_true g)), h0]; rfl
noncomputable def r5bit_ent : List V → List Blk → Option (Bool × Out)
  | [.s (.string s), .s (.int .i64 i)], [] => some ((decide (0 ≤ i) && decide (i < 8 * (s.size : Int)) && decide (s.size ≤ 64)), (.s (.int .i64 (bitT s i)), []))
  | _, _ => none
theorem r5bit_ok : ∀ args bs out, r5bit_ent args bs = some (true, out) → Fact Tryd.prog noG 131 args bs out := by
  intro args bs out h
  unfold r5bit_ent at h
  split at h
  · rename_i s i
    simp only [Option.some.injEq, Prod.mk.injEq] at h
    obtain ⟨hg, rfl⟩ := h
    exact r5bit_fact s i hg
  · cases h
noncomputable def T_r5bit : Tbl := Tbl.cons 131 r5bit_ent T_r5Why
theorem T_r5bit_ok : CallOk Tryd.prog noG T_r5bit := cons_ok T_r5Why_ok r5bit_ok
def mode23 : FuncId → Nat := fun f => bif Nat.beq f 102 then 2 else 0
/-! downpour/downpourref02.Bits -/
noncomputable abbrev qf0 (fuel : Nat) : Ctx Out := (fnX Tryd.prog mode23 T_r5bit fuel 19 0)
noncomputable def r5BitsF_s2 {R : Type} (w2 n : Int) (ws w3 : List Int) (w1 : Nat) (c0 : Nat → Int → List Int → Option R) (c1 : Nat → List Int → Option R) : Option R :=
  br (decide (w2 < n))
    (grd (okW ws && decide (0 ≤ w2) && decide (w2 < 64 * (ws.length : Int)) && decide (ws.length ≤ 1000000)) <|
    grd (Nat.beq w3.length w1) <|
    grd (okN (w1 + 1) 8) <|
    c0 ((w3 ++ [(bitS ws w2)]).length) (IntKind.i64.wrap (w2 + 1)) (w3 ++ [(bitS ws w2)]))
    (c1 w1 w3)
theorem r5BitsF_s2_eq (fuel k : Nat) (K : Ex → St → Option Out) (w2 n : Int) (ws w3 : List Int) (w1 : Nat) : lpN (sub (bodyOf Tryd.prog 102) [1, 1, 0, 1, 0, 0]) (qf0 fuel) 262156 [1, 2, 3, 4] (k + 1) ⟨[(1, .ptr 0 2 0 0), (2, vN), (3, .sl 1 1 0 w1), (4, vI w2)], [(0, some ⟨44, .agg [vI n, vW ws], true⟩), (1, bL 3 w3)], 2, none⟩ K = r5BitsF_s2 w2 n ws w3 w1 (fun a6 a7 a8 => lpN (sub (bodyOf Tryd.prog 102) [1, 1, 0, 1, 0, 0]) (qf0 fuel) 262156 [1, 2, 3, 4] k ⟨[(1, .ptr 0 2 0 0), (2, vN), (3, .sl 1 1 0 a6), (4, vI a7)], [(0, some ⟨44, .agg [vI n, vW ws], true⟩), (1, bL 3 a8)], 2, none⟩ K) (fun a9 a0 => K (.exit 0) ⟨[(2, vN), (3, .sl 0 1 0 a9)], [(0, bL 3 a0)], 1, none⟩) := by kernel_rfl
noncomputable def r5BitsF_l1 {R : Type} (fuel : Nat) (n : Int) (ws : List Int) (k0 : Nat → List Int → Option R) : Nat → Nat → Int → List Int → Option R
  | 0, _, _, _ => none
  | k + 1, w1, w2, w3 =>
    (r5BitsF_s2 w2 n ws w3 w1 (fun a6 a7 a8 => ( r5BitsF_l1 fuel n ws k0 k a6 a7 a8 )) (fun a9 a0 => k0 a9 a0))
theorem r5BitsF_l1_eq (fuel : Nat) (n : Int) (ws : List Int) (K : Ex → St → Option Out) : ∀ (k w1 : Nat) (w2 : Int) (w3 : List Int), lpN (sub (bodyOf Tryd.prog 102) [1, 1, 0, 1, 0, 0]) (qf0 fuel) 262156 [1, 2, 3, 4] k ⟨[(1, .ptr 0 2 0 0), (2, vN), (3, .sl 1 1 0 w1), (4, vI w2)], [(0, some ⟨44, .agg [vI n, vW ws], true⟩), (1, bL 3 w3)], 2, none⟩ K = r5BitsF_l1 fuel n ws (fun y4 y5 => K (.exit 0) ⟨[(2, vN), (3, .sl 0 1 0 y4)], [(0, bL 3 y5)], 1, none⟩) k w1 w2 w3
  | 0, _, _, _ => rfl
  | k + 1, w1, w2, w3 => by
    unfold r5BitsF_l1
    exact (r5BitsF_s2_eq fuel k K w2 n ws w3 w1).trans (congr (congr (Eq.refl (r5BitsF_s2 (R := Out) w2 n ws w3 w1)) (funext fun a6 => funext fun a7 => funext fun a8 => r5BitsF_l1_eq fuel n ws K k a6 a7 a8)) (rfl))
noncomputable def r5BitsF_s3 {R : Type} (x0 : Nat) (x1 : List Int) (c0 : Nat → Nat → List Int → Option R) : Option R :=
  c0 0 x0 x1
theorem r5BitsF_s3_eq (fuel : Nat)  (x0 : Nat) (x1 : List Int) : (kont (qf0 fuel) (bodyOf Tryd.prog 102) [1, 1, 0, 1, 0] 4 (endK Tryd.prog 2 0 102)) (.exit 0) ⟨[(2, vN), (3, .sl 0 1 0 x0)], [(0, bL 3 x1)], 1, none⟩ = r5BitsF_s3 x0 x1 (fun a0 a1 a2 => some (.sl 0 1 a0 a1, [bL 3 a2])) := by kernel_rfl
noncomputable def r5BitsF_s1 {R : Type} (n : Int) (ws : List Int) (c0 : Nat → Int → List Int → Option R) : Option R :=
  c0 0 0 ([])
theorem r5BitsF_s1_eq (fuel : Nat)  (n : Int) (ws : List Int) : callN Tryd.prog mode23 T_r5bit fuel 102 [.agg [vI n, vW ws]] [] = r5BitsF_s1 n ws (fun a0 a1 a2 => lpN (sub (bodyOf Tryd.prog 102) [1, 1, 0, 1, 0, 0]) (qf0 fuel) 262156 [1, 2, 3, 4] fuel ⟨[(1, .ptr 0 2 0 0), (2, vN), (3, .sl 1 1 0 a0), (4, vI a1)], [(0, some ⟨44, .agg [vI n, vW ws], true⟩), (1, bL 3 a2)], 2, none⟩ (kont (qf0 fuel) (bodyOf Tryd.prog 102) [1, 1, 0, 1, 0] 4 (endK Tryd.prog 2 0 102))) := by kernel_rfl
noncomputable def r5BitsF {R : Type} (fuel : Nat) (n : Int) (ws : List Int) (r0 : Nat → Nat → List Int → Option R) : Option R :=
  (r5BitsF_s1 n ws (fun a0 a1 a2 => (r5BitsF_l1 fuel n ws (fun x0 x1 => (r5BitsF_s3 x0 x1 (fun a3 a4 a5 => r0 a3 a4 a5))) fuel a0 a1 a2)))
theorem r5BitsF_eq (fuel : Nat) (n : Int) (ws : List Int) : callN Tryd.prog mode23 T_r5bit fuel 102 [.agg [.s (.int .i64 n), .li .u64 ws]] [] = r5BitsF fuel n ws (fun z0 z1 z2 => some (.sl 0 1 z0 z1, [some ⟨3, .li .i64 z2, true⟩])) := by
  unfold r5BitsF
  exact (r5BitsF_s1_eq fuel  n ws).trans (congr (Eq.refl (r5BitsF_s1 (R := Out) n ws)) (funext fun a0 => funext fun a1 => funext fun a2 => (r5BitsF_l1_eq fuel n ws (kont (qf0 fuel) (bodyOf Tryd.prog 102) [1, 1, 0, 1, 0] 4 (endK Tryd.prog 2 0 102)) fuel a0 a1 a2).trans (congrFun (congrFun (congrFun (congrFun (congr (Eq.refl (r5BitsF_l1 (R := Out) fuel n ws)) (funext fun x0 => funext fun x1 => (r5BitsF_s3_eq fuel  x0 x1))) fuel) a0) a1) a2)))
theorem r5Bits_loop {R : Type} (fuel : Nat) (m : Nat) (ws : List Int) (hok : okW ws = true) (hm : m ≤ 64 * ws.length) (hx : ws.length ≤ 1000) (k0 : Nat → List Int → Option R) : ∀ (k j : Nat), j ≤ m → m < j + k → r5BitsF_l1 fuel (m : Int) ws k0 k j (j : Int) (bitsR (j : Int) ws) = k0 m (bitsR (m : Int) ws)
  | 0, j, h1, h2 => by omega
  | k + 1, j, h1, h2 => by
    unfold r5BitsF_l1 r5BitsF_s2
    rw [br_if]
    by_cases hc : j < m
    · have e : bitsR (j : Int) ws ++ [bitS ws (j : Int)] = bitsR ((j + 1 : Nat) : Int) ws := by
        rw [bitsR_eq, bitS_eq]; unfold bitsRI
        rw [Int.toNat_natCast, Int.toNat_natCast, List.range_succ, List.map_append]; rfl
      rw [if_pos (by simpa using hc), grd_of (by rw [hok]; simp; omega), grd_of (by rw [bitsR_len, Int.toNat_natCast]; exact beq_self j), grd_of (okN_of (by omega) (by omega)), e, bitsR_len, Int.toNat_natCast, wrap_i64 (by omega) (by omega), show (j : Int) + 1 = ((j + 1 : Nat) : Int) by omega]
      exact r5Bits_loop fuel m ws hok hm hx k0 k (j + 1) (by omega) (by omega)
    · have e : j = m := by omega
      subst e
      rw [if_neg (by simp)]
theorem r5Bits_fact (n : Int) (ws : List Int) (hg : (okW ws && decide (0 ≤ n) && decide (n ≤ 64 * (ws.length : Int)) && decide (ws.length ≤ 8)) = true) : Fact Tryd.prog noG 102 [.agg [.s (.int .i64 n), .li .u64 ws]] [] (.sl 0 1 0 ((bitsR n ws).length), [some ⟨3, .li .i64 (bitsR n ws), true⟩]) := by
  simp only [Bool.and_eq_true, decide_eq_true_eq] at hg
  obtain ⟨⟨⟨hok, h0⟩, hm⟩, hx⟩ := hg
  obtain ⟨j, rfl⟩ : ∃ j : Nat, n = (j : Int) := ⟨n.toNat, by omega⟩
  refine callN_fact hN hM T_r5bit_ok (n := j + 1) (mode := mode23) ?_
  rw [r5BitsF_eq]
  unfold r5BitsF r5BitsF_s1
  have e0 : ([] : List Int) = bitsR ((0 : Nat) : Int) ws := by rw [bitsR_eq]; rfl
  dsimp only
  rw [e0, show (0 : Int) = ((0 : Nat) : Int) from rfl, r5Bits_loop (j + 1) j ws hok (by omega) (by omega) _ (j + 1) 0 (by omega) (by omega)]
  unfold r5BitsF_s3
  rw [bitsR_len, Int.toNat_natCast]
noncomputable def r5Bits_ent : List V → List Blk → Option (Bool × Out)
  | [.agg [.s (.int .i64 n), w0]], [] => (asSl (.int .u64) w0).bind fun ws => some ((okW ws && decide (0 ≤ n) && decide (n ≤ 64 * (ws.length : Int)) && decide (ws.length ≤ 8)), (.sl 0 1 0 ((bitsR n ws).length), [some ⟨3, .li .i64 (bitsR n ws), true⟩]))
  | _, _ => none
theorem r5Bits_ok : ∀ args bs out, r5Bits_ent args bs = some (true, out) → Fact Tryd.prog noG 102 args bs out := by
  intro args bs out h
  unfold r5Bits_ent at h
  split at h
  · rename_i n w0
    obtain ⟨ws, h_ws, h⟩ := Option.bind_eq_some_iff.1 h
    simp only [Option.some.injEq, Prod.mk.injEq] at h
    obtain ⟨hg, rfl⟩ := h
    exact (r5Bits_fact n ws hg).args (fun _ _ _ => fun _ h => RVs_two (fun _ h => RV_agg_two (fun _ h => RVs_two (fun _ h => h) (fun _ h => RVs_two (fun _ h => RV_li h_ws h) (fun _ h => h) h) h) h) (fun _ h => h) h)
  · cases h
noncomputable def T_r5Bits : Tbl := Tbl.cons 102 r5Bits_ent T_r5bit
theorem T_r5Bits_ok : CallOk Tryd.prog noG T_r5Bits := cons_ok T_r5bit_ok r5Bits_ok
/-! downpour/downpourref05.part -/
noncomputable abbrev qf1 : Code := (sub (bodyOf Tryd.prog 84) [1, 1, 0, 1, 0, 0])
noncomputable abbrev qf2 (fuel : Nat) : Ctx Out := (fnX Tryd.prog mode23 T_r5Bits fuel 51 0)
noncomputable abbrev qf3 (z : Int) (m : List (Int × List Int)) : Nat × Option Blk := (0, some ⟨24, .agg [vI z, vR m], true⟩)
noncomputable abbrev qf4 : List Nat := [1, 2, 3, 6, 7, 8, 9, 10, 11, 14, 15, 16, 17, 18, 19, 20, 21, 22]
noncomputable abbrev qf5 : Nat × V := (3, .ptr 0 2 0 0)
noncomputable abbrev qf6 : Code := (sub qf1 [1, 1, 0, 0, 1, 1, 0, 1, 0, 0])
noncomputable abbrev qf7 : List Nat := [1, 2, 3, 6, 7, 14, 15, 16]
noncomputable abbrev qf8 : Nat × V := (9, .ptr 2 2 0 0)
noncomputable def r5partF_s4 {R : Type} (w0 : Int) (l : List ByteArray) (w1 q : Int) (w2 : List Int) (w3 w4 : Nat) (m : List (Int × List Int)) (w5 : Int) (w6 : Bool) (w7 : Int) (w8 : List Int) (w9 : Nat) (z : Int) (w44 : List (Int × List Int)) (c0 : Nat → Int → List Int → Option R) (c1 : Nat → Int → Bool → List Int → Option R) : Option R :=
  br (decide (w0 < 8))
    (bnd (ix l w1) fun e0 =>
    grd (decide (0 ≤ (IntKind.i64.wrap ((IntKind.i64.wrap (8 * q)) + w0))) && decide ((IntKind.i64.wrap ((IntKind.i64.wrap (8 * q)) + w0)) < 8 * (e0.size : Int)) && decide (e0.size ≤ 64)) <|
    grd (Nat.beq w2.length w3) <|
    grd (okN (w3 + 1) 8) <|
    c0 ((w2 ++ [(bitT e0 (IntKind.i64.wrap ((IntKind.i64.wrap (8 * q)) + w0)))]).length) (IntKind.i64.wrap (w0 + 1)) (w2 ++ [(bitT e0 (IntKind.i64.wrap ((IntKind.i64.wrap (8 * q)) + w0)))]))
    (c1 w3 w0 (decide (w0 < 8)) w2)
theorem r5partF_s4_eq (fuel k : Nat) (K : Ex → St → Option Out) (w0 : Int) (l : List ByteArray) (w1 q : Int) (w2 : List Int) (w3 w4 : Nat) (m : List (Int × List Int)) (w5 : Int) (w6 : Bool) (w7 : Int) (w8 : List Int) (w9 : Nat) (z : Int) (w44 : List (Int × List Int)) : lpN qf6 (qf2 fuel) 2251799813672910 qf4 (k + 1) ⟨[(1, .ls l), (2, vI q), qf5, (6, vN), (7, .sl 1 2 0 w4), (8, vI w1), qf8, (10, .sl 3 1 0 w3), (11, vI w0), (14, vR m), (15, vI w5), (16, vI w1), (17, vB w6), (18, vI w1), (19, .lp [vI w7, vW w8] 0), (20, .agg [vI w7, vW w8]), (21, .agg [vI w7, vW w8]), (22, .sl 4 1 0 w9)], [(qf3 z m), (1, some ⟨44, vR w44, true⟩), (2, some ⟨44, .agg [vI w7, vW w8], true⟩), (3, bL 3 w2), (4, none)], 5, none⟩ K = r5partF_s4 w0 l w1 q w2 w3 w4 m w5 w6 w7 w8 w9 z w44 (fun a0 a1 a2 => lpN qf6 (qf2 fuel) 2251799813672910 qf4 k ⟨[(1, .ls l), (2, vI q), qf5, (6, vN), (7, .sl 1 2 0 w4), (8, vI w1), qf8, (10, .sl 3 1 0 a0), (11, vI a1), (14, vR m), (15, vI w5), (16, vI w1), (17, vB w6), (18, vI w1), (19, .lp [vI w7, vW w8] 0), (20, .agg [vI w7, vW w8]), (21, .agg [vI w7, vW w8]), (22, .sl 4 1 0 w9)], [(qf3 z m), (1, some ⟨44, vR w44, true⟩), (2, some ⟨44, .agg [vI w7, vW w8], true⟩), (3, bL 3 a2), (4, none)], 5, none⟩ K) (fun a3 a4 a5 a6 => K (.exit 2) ⟨[(1, .ls l), (2, vI q), qf5, (6, vN), (7, .sl 1 2 0 w4), (8, vI w1), qf8, (10, .sl 3 1 0 a3), (11, vI a4), (14, vR m), (15, vI w5), (16, vI w1), (17, vB w6), (18, vI w1), (19, .lp [vI w7, vW w8] 0), (20, .agg [vI w7, vW w8]), (21, .agg [vI w7, vW w8]), (22, .sl 4 1 0 w9), (23, vI a4), (24, vB a5)], [(qf3 z m), (1, some ⟨44, vR w44, true⟩), (2, some ⟨44, .agg [vI w7, vW w8], true⟩), (3, bL 3 a6), (4, none)], 5, none⟩) := by kernel_rfl
noncomputable def r5partF_l3 {R : Type} (fuel : Nat) (l : List ByteArray) (q : Int) (w0 : Nat) (w1 : Int) (m : List (Int × List Int)) (w2 : Int) (w3 : Bool) (w4 : Int) (w5 : List Int) (w6 : Nat) (z : Int) (w7 : List (Int × List Int)) (k0 : Nat → Int → Bool → List Int → Option R) : Nat → Nat → Int → List Int → Option R
  | 0, _, _, _ => none
  | k + 1, w8, w9, w10 =>
    (r5partF_s4 w9 l w1 q w10 w8 w0 m w2 w3 w4 w5 w6 z w7 (fun a0 a1 a2 => ( r5partF_l3 fuel l q w0 w1 m w2 w3 w4 w5 w6 z w7 k0 k a0 a1 a2 )) (fun a3 a4 a5 a6 => k0 a3 a4 a5 a6))
theorem r5partF_l3_eq (fuel : Nat) (l : List ByteArray) (q : Int) (w0 : Nat) (w1 : Int) (m : List (Int × List Int)) (w2 : Int) (w3 : Bool) (w4 : Int) (w5 : List Int) (w6 : Nat) (z : Int) (w7 : List (Int × List Int)) (K : Ex → St → Option Out) : ∀ (k w8 : Nat) (w9 : Int) (w10 : List Int), lpN qf6 (qf2 fuel) 2251799813672910 qf4 k ⟨[(1, .ls l), (2, vI q), qf5, (6, vN), (7, .sl 1 2 0 w0), (8, vI w1), qf8, (10, .sl 3 1 0 w8), (11, vI w9), (14, vR m), (15, vI w2), (16, vI w1), (17, vB w3), (18, vI w1), (19, .lp [vI w4, vW w5] 0), (20, .agg [vI w4, vW w5]), (21, .agg [vI w4, vW w5]), (22, .sl 4 1 0 w6)], [(qf3 z m), (1, some ⟨44, vR w7, true⟩), (2, some ⟨44, .agg [vI w4, vW w5], true⟩), (3, bL 3 w10), (4, none)], 5, none⟩ K = r5partF_l3 fuel l q w0 w1 m w2 w3 w4 w5 w6 z w7 (fun y0 y1 y2 y3 => K (.exit 2) ⟨[(1, .ls l), (2, vI q), qf5, (6, vN), (7, .sl 1 2 0 w0), (8, vI w1), qf8, (10, .sl 3 1 0 y0), (11, vI y1), (14, vR m), (15, vI w2), (16, vI w1), (17, vB w3), (18, vI w1), (19, .lp [vI w4, vW w5] 0), (20, .agg [vI w4, vW w5]), (21, .agg [vI w4, vW w5]), (22, .sl 4 1 0 w6), (23, vI y1), (24, vB y2)], [(qf3 z m), (1, some ⟨44, vR w7, true⟩), (2, some ⟨44, .agg [vI w4, vW w5], true⟩), (3, bL 3 y3), (4, none)], 5, none⟩) k w8 w9 w10
  | 0, _, _, _ => rfl
  | k + 1, w8, w9, w10 => by
    unfold r5partF_l3
    exact (r5partF_s4_eq fuel k K w9 l w1 q w10 w8 w0 m w2 w3 w4 w5 w6 z w7).trans (congr (congr (Eq.refl (r5partF_s4 (R := Out) w9 l w1 q w10 w8 w0 m w2 w3 w4 w5 w6 z w7)) (funext fun a0 => funext fun a1 => funext fun a2 => r5partF_l3_eq fuel l q w0 w1 m w2 w3 w4 w5 w6 z w7 K k a0 a1 a2)) (rfl))
noncomputable def r5partF_s3 {R : Type} (l : List ByteArray) (w0 q : Int) (w1 : List Int) (w2 w3 : Nat) (m : List (Int × List Int)) (w4 : Int) (w5 : Bool) (w6 : Int) (w7 : List Int) (z : Int) (w8 : List (Int × List Int)) (c0 : Nat → Int → List Int → Option R) : Option R :=
  bnd (ix l w0) fun e0 =>
  grd (decide (0 ≤ (IntKind.i64.wrap ((IntKind.i64.wrap (8 * q)) + 0))) && decide ((IntKind.i64.wrap ((IntKind.i64.wrap (8 * q)) + 0)) < 8 * (e0.size : Int)) && decide (e0.size ≤ 64)) <|
  grd (Nat.beq w1.length w2) <|
  grd (okN (w2 + 1) 8) <|
  c0 ((w1 ++ [(bitT e0 (IntKind.i64.wrap ((IntKind.i64.wrap (8 * q)) + 0)))]).length) 1 (w1 ++ [(bitT e0 (IntKind.i64.wrap ((IntKind.i64.wrap (8 * q)) + 0)))])
theorem r5partF_s3_eq (fuel k : Nat) (K : Ex → St → Option Out) (l : List ByteArray) (w0 q : Int) (w1 : List Int) (w2 w3 : Nat) (m : List (Int × List Int)) (w4 : Int) (w5 : Bool) (w6 : Int) (w7 : List Int) (z : Int) (w8 : List (Int × List Int)) : lpN qf6 (qf2 fuel) 2251799813672910 qf4 (k + 1) ⟨[(1, .ls l), (2, vI q), qf5, (6, vN), (7, .sl 1 2 0 w3), (8, vI w0), qf8, (10, .sl 3 1 0 w2), (11, vI 0), (14, vR m), (15, vI w4), (16, vI w0), (17, vB w5), (18, vI w0), (19, .lp [vI w6, vW w7] 0), (20, .agg [vI w6, vW w7]), (21, .agg [vI w6, vW w7]), (22, .sl 3 1 0 w2)], [(qf3 z m), (1, some ⟨44, vR w8, true⟩), (2, some ⟨44, .agg [vI w6, vW w7], true⟩), (3, bL 3 w1)], 4, none⟩ K = r5partF_s3 l w0 q w1 w2 w3 m w4 w5 w6 w7 z w8 (fun a0 a1 a2 => lpN qf6 (qf2 fuel) 2251799813672910 qf4 k ⟨[(1, .ls l), (2, vI q), qf5, (6, vN), (7, .sl 1 2 0 w3), (8, vI w0), qf8, (10, .sl 3 1 0 a0), (11, vI a1), (14, vR m), (15, vI w4), (16, vI w0), (17, vB w5), (18, vI w0), (19, .lp [vI w6, vW w7] 0), (20, .agg [vI w6, vW w7]), (21, .agg [vI w6, vW w7]), (22, .sl 4 1 0 w2)], [(qf3 z m), (1, some ⟨44, vR w8, true⟩), (2, some ⟨44, .agg [vI w6, vW w7], true⟩), (3, bL 3 a2), (4, none)], 5, none⟩ K) := by kernel_rfl
noncomputable def r5partF_l2 {R : Type} (fuel : Nat) (l : List ByteArray) (q : Int) (w0 : Nat) (w1 : Int) (m : List (Int × List Int)) (w2 z : Int) (w3 : List (Int × List Int)) (k0 : Nat → Int → Bool → Int → List Int → Nat → Bool → List Int → Option R) : Nat → Nat → Bool → Int → List Int → List Int → Option R
  | 0, _, _, _, _, _ => none
  | k + 1, w4, w5, w6, w7, w8 =>
    (r5partF_s3 l w1 q w8 w4 w0 m w2 w5 w6 w7 z w3 (fun a0 a1 a2 => (r5partF_l3 fuel l q w0 w1 m w2 w5 w6 w7 w4 z w3 (fun x0 x1 x2 x3 => k0 x0 x1 w5 w6 w7 w4 x2 x3) k a0 a1 a2)))
theorem r5partF_l2_eq (fuel : Nat) (l : List ByteArray) (q : Int) (w0 : Nat) (w1 : Int) (m : List (Int × List Int)) (w2 z : Int) (w3 : List (Int × List Int)) (K : Ex → St → Option Out) : ∀ (k w4 : Nat) (w5 : Bool) (w6 : Int) (w7 w8 : List Int), lpN qf6 (qf2 fuel) 2251799813672910 qf4 k ⟨[(1, .ls l), (2, vI q), qf5, (6, vN), (7, .sl 1 2 0 w0), (8, vI w1), qf8, (10, .sl 3 1 0 w4), (11, vI 0), (14, vR m), (15, vI w2), (16, vI w1), (17, vB w5), (18, vI w1), (19, .lp [vI w6, vW w7] 0), (20, .agg [vI w6, vW w7]), (21, .agg [vI w6, vW w7]), (22, .sl 3 1 0 w4)], [(qf3 z m), (1, some ⟨44, vR w3, true⟩), (2, some ⟨44, .agg [vI w6, vW w7], true⟩), (3, bL 3 w8)], 4, none⟩ K = r5partF_l2 fuel l q w0 w1 m w2 z w3 (fun y0 y1 y2 y3 y4 y5 y6 y7 => K (.exit 2) ⟨[(1, .ls l), (2, vI q), qf5, (6, vN), (7, .sl 1 2 0 w0), (8, vI w1), qf8, (10, .sl 3 1 0 y0), (11, vI y1), (14, vR m), (15, vI w2), (16, vI w1), (17, vB y2), (18, vI w1), (19, .lp [vI y3, vW y4] 0), (20, .agg [vI y3, vW y4]), (21, .agg [vI y3, vW y4]), (22, .sl 4 1 0 y5), (23, vI y1), (24, vB y6)], [(qf3 z m), (1, some ⟨44, vR w3, true⟩), (2, some ⟨44, .agg [vI y3, vW y4], true⟩), (3, bL 3 y7), (4, none)], 5, none⟩) k w4 w5 w6 w7 w8
  | 0, _, _, _, _, _ => rfl
  | k + 1, w4, w5, w6, w7, w8 => by
    unfold r5partF_l2
    exact (r5partF_s3_eq fuel k K l w1 q w8 w4 w0 m w2 w5 w6 w7 z w3).trans (congr (Eq.refl (r5partF_s3 (R := Out) l w1 q w8 w4 w0 m w2 w5 w6 w7 z w3)) (funext fun a0 => funext fun a1 => funext fun a2 => r5partF_l3_eq fuel l q w0 w1 m w2 w5 w6 w7 w4 z w3 K k a0 a1 a2))
noncomputable def r5partF_s5 {R : Type} (x0 : List Int) (x1 : Nat) (w0 : List (Int × List Int)) (w1 : Nat) (w2 w3 : Int) (l : List ByteArray) (q x2 : Int) (m : List (Int × List Int)) (x3 : Bool) (x4 : Int) (x5 : List Int) (x6 : Nat) (x7 : Bool) (z : Int) (c0 : Nat → Int → Int → (List (Int × List Int)) → Option R) : Option R :=
  grd (decide (((x0.drop 0).take x1).length ≤ 512)) <|
  grd (Nat.beq w0.length w1) <|
  grd (okN (w1 + 1) 32) <|
  c0 ((w0 ++ [(((((x0.drop 0).take x1).length : Nat) : Int), (fromS ((x0.drop 0).take x1)))]).length) w2 (IntKind.i64.wrap (w3 + 1)) (w0 ++ [(((((x0.drop 0).take x1).length : Nat) : Int), (fromS ((x0.drop 0).take x1)))])
theorem r5partF_s5_eq (fuel k : Nat) (K : Ex → St → Option Out) (x0 : List Int) (x1 : Nat) (w0 : List (Int × List Int)) (w1 : Nat) (w2 w3 : Int) (l : List ByteArray) (q x2 : Int) (m : List (Int × List Int)) (x3 : Bool) (x4 : Int) (x5 : List Int) (x6 : Nat) (x7 : Bool) (z : Int) : (kont (qf2 fuel) qf1 [1, 1, 0, 0, 1, 1, 0, 1, 0] 2251799813672910 (rdK qf1 (qf2 fuel) 2216615441596616 qf7 k K)) (.exit 2) ⟨[(1, .ls l), (2, vI q), qf5, (6, vN), (7, .sl 1 2 0 w1), (8, vI w3), qf8, (10, .sl 3 1 0 x1), (11, vI x2), (14, vR m), (15, vI w2), (16, vI w3), (17, vB x3), (18, vI w3), (19, .lp [vI x4, vW x5] 0), (20, .agg [vI x4, vW x5]), (21, .agg [vI x4, vW x5]), (22, .sl 4 1 0 x6), (23, vI x2), (24, vB x7)], [(qf3 z m), (1, some ⟨44, vR w0, true⟩), (2, some ⟨44, .agg [vI x4, vW x5], true⟩), (3, bL 3 x0), (4, none)], 5, none⟩ = r5partF_s5 x0 x1 w0 w1 w2 w3 l q x2 m x3 x4 x5 x6 x7 z (fun a0 a1 a2 a3 => lpN qf1 (qf2 fuel) 2216615441596616 qf7 k ⟨[(1, .ls l), (2, vI q), qf5, (6, vN), (7, .sl 1 2 0 a0), (14, vR m), (15, vI a1), (16, vI a2)], [(qf3 z m), (1, some ⟨44, vR a3, true⟩)], 2, none⟩ K) := by kernel_rfl
noncomputable def r5partF_s2 {R : Type} (w0 w1 : Int) (m : List (Int × List Int)) (w2 : Nat) (w3 : List (Int × List Int)) (l : List ByteArray) (q z : Int) (c0 : Nat → Bool → Int → List Int → List Int → Option R) (c1 : Nat → (List (Int × List Int)) → Option R) : Option R :=
  br (decide (w0 < w1))
    (bnd (ix m w0) fun e0 =>
    grd (okW e0.2 && decide (0 ≤ e0.1) && decide (e0.1 ≤ 64 * (e0.2.length : Int)) && decide (e0.2.length ≤ 8)) <|
    c0 ((bitsR e0.1 e0.2).length) (decide (w0 < w1)) e0.1 e0.2 (bitsR e0.1 e0.2))
    (c1 w2 w3)
theorem r5partF_s2_eq (fuel k : Nat) (K : Ex → St → Option Out) (w0 w1 : Int) (m : List (Int × List Int)) (w2 : Nat) (w3 : List (Int × List Int)) (l : List ByteArray) (q z : Int) : lpN qf1 (qf2 fuel) 2216615441596616 qf7 (k + 1) ⟨[(1, .ls l), (2, vI q), qf5, (6, vN), (7, .sl 1 2 0 w2), (14, vR m), (15, vI w1), (16, vI w0)], [(qf3 z m), (1, some ⟨44, vR w3, true⟩)], 2, none⟩ K = r5partF_s2 w0 w1 m w2 w3 l q z (fun a0 a1 a2 a3 a4 => lpN qf6 (qf2 fuel) 2251799813672910 qf4 fuel ⟨[(1, .ls l), (2, vI q), qf5, (6, vN), (7, .sl 1 2 0 w2), (8, vI w0), qf8, (10, .sl 3 1 0 a0), (11, vI 0), (14, vR m), (15, vI w1), (16, vI w0), (17, vB a1), (18, vI w0), (19, .lp [vI a2, vW a3] 0), (20, .agg [vI a2, vW a3]), (21, .agg [vI a2, vW a3]), (22, .sl 3 1 0 a0)], [(qf3 z m), (1, some ⟨44, vR w3, true⟩), (2, some ⟨44, .agg [vI a2, vW a3], true⟩), (3, bL 3 a4)], 4, none⟩ (kont (qf2 fuel) qf1 [1, 1, 0, 0, 1, 1, 0, 1, 0] 2251799813672910 (rdK qf1 (qf2 fuel) 2216615441596616 qf7 k K))) (fun a5 a6 => K (.exit 0) ⟨[qf5, (6, vN), (7, .sl 1 2 0 a5)], [(qf3 z m), (1, some ⟨44, vR a6, true⟩)], 2, none⟩) := by kernel_rfl
noncomputable def r5partF_l1 {R : Type} (fuel : Nat) (l : List ByteArray) (q : Int) (m : List (Int × List Int)) (z : Int) (k0 : Nat → (List (Int × List Int)) → Option R) : Nat → Nat → Int → Int → (List (Int × List Int)) → Option R
  | 0, _, _, _, _ => none
  | k + 1, w0, w1, w2, w3 =>
    (r5partF_s2 w2 w1 m w0 w3 l q z (fun a0 a1 a2 a3 a4 => (r5partF_l2 fuel l q w0 w2 m w1 z w3 (fun x0 x1 x2 x3 x4 x5 x6 x7 => (r5partF_s5 x7 x0 w3 w0 w1 w2 l q x1 m x2 x3 x4 x5 x6 z (fun a5 a6 a7 a8 => ( r5partF_l1 fuel l q m z k0 k a5 a6 a7 a8 )))) fuel a0 a1 a2 a3 a4)) (fun a9 a10 => k0 a9 a10))
theorem r5partF_l1_eq (fuel : Nat) (l : List ByteArray) (q : Int) (m : List (Int × List Int)) (z : Int) (K : Ex → St → Option Out) : ∀ (k w0 : Nat) (w1 w2 : Int) (w3 : List (Int × List Int)), lpN qf1 (qf2 fuel) 2216615441596616 qf7 k ⟨[(1, .ls l), (2, vI q), qf5, (6, vN), (7, .sl 1 2 0 w0), (14, vR m), (15, vI w1), (16, vI w2)], [(qf3 z m), (1, some ⟨44, vR w3, true⟩)], 2, none⟩ K = r5partF_l1 fuel l q m z (fun y0 y1 => K (.exit 0) ⟨[qf5, (6, vN), (7, .sl 1 2 0 y0)], [(qf3 z m), (1, some ⟨44, vR y1, true⟩)], 2, none⟩) k w0 w1 w2 w3
  | 0, _, _, _, _ => rfl
  | k + 1, w0, w1, w2, w3 => by
    unfold r5partF_l1
    exact (r5partF_s2_eq fuel k K w2 w1 m w0 w3 l q z).trans (congr (congr (Eq.refl (r5partF_s2 (R := Out) w2 w1 m w0 w3 l q z)) (funext fun a0 => funext fun a1 => funext fun a2 => funext fun a3 => funext fun a4 => (r5partF_l2_eq fuel l q w0 w2 m w1 z w3 (kont (qf2 fuel) qf1 [1, 1, 0, 0, 1, 1, 0, 1, 0] 2251799813672910 (rdK qf1 (qf2 fuel) 2216615441596616 qf7 k K)) fuel a0 a1 a2 a3 a4).trans (congrFun (congrFun (congrFun (congrFun (congrFun (congrFun (congr (Eq.refl (r5partF_l2 (R := Out) fuel l q w0 w2 m w1 z w3)) (funext fun x0 => funext fun x1 => funext fun x2 => funext fun x3 => funext fun x4 => funext fun x5 => funext fun x6 => funext fun x7 => (r5partF_s5_eq fuel k K x7 x0 w3 w0 w1 w2 l q x1 m x2 x3 x4 x5 x6 z).trans (congr (Eq.refl (r5partF_s5 (R := Out) x7 x0 w3 w0 w1 w2 l q x1 m x2 x3 x4 x5 x6 z)) (funext fun a5 => funext fun a6 => funext fun a7 => funext fun a8 => r5partF_l1_eq fuel l q m z K k a5 a6 a7 a8)))) fuel) a0) a1) a2) a3) a4))) (rfl))
noncomputable def r5partF_s6 {R : Type} (z : Int) (x0 : List (Int × List Int)) (x1 : Nat) (m : List (Int × List Int)) (c0 : (List (Int × List Int)) → Option R) : Option R :=
  grd (rtM (IntKind.i64.wrap (z + 8)) ((x0.drop 0).take x1)) <|
  c0 (echR (IntKind.i64.wrap (z + 8)) ((x0.drop 0).take x1))
theorem r5partF_s6_eq (fuel : Nat)  (z : Int) (x0 : List (Int × List Int)) (x1 : Nat) (m : List (Int × List Int)) : (kont (qf2 fuel) (bodyOf Tryd.prog 84) [1, 1, 0, 1, 0] 64 (endK Tryd.prog 0 0 84)) (.exit 0) ⟨[qf5, (6, vN), (7, .sl 1 2 0 x1)], [(qf3 z m), (1, some ⟨44, vR x0, true⟩)], 2, none⟩ = r5partF_s6 z x0 x1 m (fun a0 => some (vR a0, [])) := by kernel_rfl
noncomputable def r5partF_s1 {R : Type} (m : List (Int × List Int)) (z : Int) (l : List ByteArray) (q : Int) (c0 : Nat → Int → Int → (List (Int × List Int)) → Option R) : Option R :=
  c0 0 ((m.length : Nat) : Int) 0 ([])
theorem r5partF_s1_eq (fuel : Nat)  (m : List (Int × List Int)) (z : Int) (l : List ByteArray) (q : Int) : callN Tryd.prog mode23 T_r5Bits fuel 84 [.agg [vI z, vR m], .ls l, vI q] [] = r5partF_s1 m z l q (fun a0 a1 a2 a3 => lpN qf1 (qf2 fuel) 2216615441596616 qf7 fuel ⟨[(1, .ls l), (2, vI q), qf5, (6, vN), (7, .sl 1 2 0 a0), (14, vR m), (15, vI a1), (16, vI a2)], [(qf3 z m), (1, some ⟨44, vR a3, true⟩)], 2, none⟩ (kont (qf2 fuel) (bodyOf Tryd.prog 84) [1, 1, 0, 1, 0] 64 (endK Tryd.prog 0 0 84))) := by kernel_rfl
noncomputable def r5partF {R : Type} (fuel : Nat) (z : Int) (m : List (Int × List Int)) (l : List ByteArray) (q : Int) (r0 : (List (Int × List Int)) → Option R) : Option R :=
  (r5partF_s1 m z l q (fun a0 a1 a2 a3 => (r5partF_l1 fuel l q m z (fun x0 x1 => (r5partF_s6 z x1 x0 m (fun a4 => r0 a4))) fuel a0 a1 a2 a3)))
theorem r5partF_eq (fuel : Nat) (z : Int) (m : List (Int × List Int)) (l : List ByteArray) (q : Int) : callN Tryd.prog mode23 T_r5Bits fuel 84 [.agg [.s (.int .i64 z), .lt (.pair (.int .i64) (.sl (.int .u64))) m], .ls l, .s (.int .i64 q)] [] = r5partF fuel z m l q (fun z0 => some (.lt (.pair (.int .i64) (.sl (.int .u64))) z0, [])) := by
  unfold r5partF
  exact (r5partF_s1_eq fuel  m z l q).trans (congr (Eq.refl (r5partF_s1 (R := Out) m z l q)) (funext fun a0 => funext fun a1 => funext fun a2 => funext fun a3 => (r5partF_l1_eq fuel l q m z (kont (qf2 fuel) (bodyOf Tryd.prog 84) [1, 1, 0, 1, 0] 64 (endK Tryd.prog 0 0 84)) fuel a0 a1 a2 a3).trans (congrFun (congrFun (congrFun (congrFun (congrFun (congr (Eq.refl (r5partF_l1 (R := Out) fuel l q m z)) (funext fun x0 => funext fun x1 => (r5partF_s6_eq fuel  z x1 x0 m))) fuel) a0) a1) a2) a3)))
theorem r5part_in3 {R : Type} (fuel : Nat) (l : List ByteArray) (q : Int) (hq : 0 ≤ q ∧ q < 64) (j : Nat) (hj : j < l.length) (hs : q < ((l[j]).size : Int) ∧ (l[j]).size ≤ 64) (w41 : Nat) (m : List Rw) (w42 : Int) (w88 : Bool) (w89 : Int) (w90 : List Int) (w87 : Nat) (z : Int) (w44 : List Rw) (bits : List Int) (hb : bits.length ≤ 64) (k0 : Nat → Int → Bool → List Int → Option R) : ∀ (d k c : Nat), c + d = 8 → d < k →
    r5partF_l3 fuel l q w41 (j : Int) m w42 w88 w89 w90 w87 z w44 k0 k (bits ++ bits8 l[j] q c).length (c : Int) (bits ++ bits8 l[j] q c) = k0 (bits ++ bits8 l[j] q 8).length 8 (decide ((8 : Int) < 8)) (bits ++ bits8 l[j] q 8)
  | 0, 0, c, h1, h2 => by omega
  | 0, k + 1, c, h1, h2 => by
    have : c = 8 := by omega
    subst this
    unfold r5partF_l3 r5partF_s4
    rw [br_if, if_neg (by decide)]
    rfl
  | d + 1, 0, c, h1, h2 => by omega
  | d + 1, k + 1, c, h1, h2 => by
    unfold r5partF_l3 r5partF_s4
    have hlen : (bits ++ bits8 l[j] q c).length = bits.length + c := by rw [List.length_append, bits8_len]
    have ew : IntKind.i64.wrap ((IntKind.i64.wrap (8 * q)) + (c : Int)) = 8 * q + (c : Int) := by rw [wrap_i64 (x := 8 * q) (by omega) (by omega), wrap_i64 (by omega) (by omega)]
    rw [br_if, if_pos (by simp; omega), bnd_of ((ix_nat l j).trans (List.getElem?_eq_getElem hj)), ew, grd_of (by simp; omega), grd_of (beq_self _), grd_of (okN_of (by omega) (by omega)), wrap_i64 (x := (c : Int) + 1) (by omega) (by omega), show (c : Int) + 1 = ((c + 1 : Nat) : Int) by omega]
    have := r5part_in3 fuel l q hq j hj hs w41 m w42 w88 w89 w90 w87 z w44 bits hb k0 d k (c + 1) (by omega) (by omega)
    rw [bits8_succ, ← List.append_assoc] at this
    exact this
theorem r5part_in2 {R : Type} (fuel : Nat) (l : List ByteArray) (q : Int) (hq : 0 ≤ q ∧ q < 64) (j : Nat) (hj : j < l.length) (hs : q < ((l[j]).size : Int) ∧ (l[j]).size ≤ 64) (w41 : Nat) (m : List Rw) (w42 : Int) (w88 : Bool) (w89 : Int) (w90 : List Int) (z : Int) (w44 : List Rw) (bits : List Int) (hb : bits.length ≤ 64) (k0 : Nat → Int → Bool → Int → List Int → Nat → Bool → List Int → Option R) (k : Nat) (hk : 10 < k) :
    ∃ y1 y2, r5partF_l2 fuel l q w41 (j : Int) m w42 z w44 k0 k bits.length w88 w89 w90 bits = k0 (bits ++ bits8 l[j] q 8).length 8 w88 w89 w90 y1 y2 (bits ++ bits8 l[j] q 8) := by
  cases k with
  | zero => omega
  | succ k =>
    unfold r5partF_l2 r5partF_s3
    have ew : IntKind.i64.wrap ((IntKind.i64.wrap (8 * q)) + 0) = 8 * q + ((0 : Nat) : Int) := by rw [wrap_i64 (x := 8 * q) (by omega) (by omega), wrap_i64 (by omega) (by omega)]; omega
    dsimp only
    rw [bnd_of ((ix_nat l j).trans (List.getElem?_eq_getElem hj)), ew, grd_of (by simp; omega), grd_of (beq_self _), grd_of (okN_of (by omega) (by omega))]
    have h := r5part_in3 (R := R) fuel l q hq j hj hs w41 m w42 w88 w89 w90 bits.length z w44 bits hb (fun (x135 : Nat) (x136 : Int) (x137 : Bool) (x138 : List Int) => k0 x135 x136 w88 w89 w90 bits.length x137 x138) 7 k 1 (by omega) (by omega)
    exact ⟨_, _, h⟩
theorem r5part_out {R : Type} (fuel : Nat) (hf : 20 < fuel) (z : Int) (h0 : 0 ≤ z) (h1 : z ≤ 64) (m : List Rw) (l : List ByteArray) (hl : l.length = m.length) (hm : m.length ≤ 64) (hr : ∀ r, r ∈ m → okW r.2 = true ∧ r.1 = z ∧ rtS z r.2 = true) (q : Int) (hq : 0 ≤ q ∧ q < 64) (hs : ∀ s, s ∈ l → q < (s.size : Int) ∧ s.size ≤ 64) (k0 : Nat → List Rw → Option R) : ∀ (k j : Nat), j ≤ m.length → m.length < j + k →
    r5partF_l1 fuel l q m z k0 k (mrs (z + 8) ((partU z m l q).take j)).length (m.length : Int) (j : Int) (mrs (z + 8) ((partU z m l q).take j)) = k0 (mrs (z + 8) (partU z m l q)).length (mrs (z + 8) (partU z m l q))
  | 0, j, a, b => by omega
  | k + 1, j, a, b => by
    unfold r5partF_l1 r5partF_s2
    have hpl := partU_len (z := z) (q := q) hl
    rw [br_if]
    by_cases hc : j < m.length
    · have hcl : j < l.length := by omega
      obtain ⟨r1, r2, r3⟩ := hr _ (List.getElem_mem hc)
      have h8 := rt_le r3
      have hw := nw_cast h0
      have hlen := (rtS_iff.1 r3).2.1
      have hbl : (bitsR (m[j]).1 (m[j]).2).length ≤ 64 := by rw [bitsR_len, r2]; omega
      rw [if_pos (by simpa using hc), bnd_of ((ix_nat m j).trans (List.getElem?_eq_getElem hc)), grd_of (by rw [r1, r2]; simp; omega)]
      have hin := fun k0 => r5part_in2 (R := R) fuel l q hq j hcl (hs _ (List.getElem_mem hcl)) (mrs (z + 8) ((partU z m l q).take j)).length m (m.length : Int) (decide ((j : Int) < (m.length : Int))) (m[j]).1 (m[j]).2 z (mrs (z + 8) ((partU z m l q).take j)) (bitsR (m[j]).1 (m[j]).2) hbl k0 fuel (by omega)
      obtain ⟨y1, y2, he⟩ := hin (fun (x144 : Nat) (x145 : Int) (x146 : Bool) (x147 : Int) (x148 : List Int) (x149 : Nat) (x150 : Bool) (x151 : List Int) => (r5partF_s5 x151 x144 (mrs (z + 8) ((partU z m l q).take j)) (mrs (z + 8) ((partU z m l q).take j)).length (m.length : Int) (j : Int) l q x145 m x146 x147 x148 x149 x150 z (fun (a152 : Nat) (a153 : Int) (a154 : Int) (a155 : List Rw) => ( r5partF_l1 fuel l q m z k0 k a152 a153 a154 a155 ))))
      refine he.trans ?_
      unfold r5partF_s5
      obtain ⟨p1, p2⟩ := part_row h0 h1 r3 l[j] hq.1
      have hll : (bitsR z (m[j]).2 ++ bits8 l[j] q 8).length = z.toNat + 8 := by rw [List.length_append, bitsR_len, bits8_len]
      have htk : ((partU z m l q).take j).length = j := by rw [List.length_take]; omega
      rw [r2, List.drop_zero, List.take_length, grd_of (by rw [hll]; simp; omega), grd_of (beq_self _), grd_of (okN_of (by rw [mrs_len]; omega) (by rw [mrs_len]; omega)), p1, hll, wrap_i64 (by omega) (by omega), show (j : Int) + 1 = ((j + 1 : Nat) : Int) by omega]
      have ea : mrs (z + 8) ((partU z m l q).take j) ++ [((((z.toNat + 8 : Nat)) : Int), words (nw (z + 8)) (aug z.toNat (val (m[j]).2) (byteAt l[j] q)))] = mrs (z + 8) ((partU z m l q).take (j + 1)) := by
        have hg := partU_get (z := z) (q := q) hc hcl
        rw [List.take_add_one, hg]
        unfold mrs
        rw [List.map_append]
        congr 1
        show _ = [mr (z + 8) _]
        unfold mr
        rw [show (((z.toNat + 8 : Nat)) : Int) = z + 8 by omega]
      rw [ea]
      exact r5part_out fuel hf z h0 h1 m l hl hm hr q hq hs k0 k (j + 1) (by omega) (by omega)
    · rw [if_neg (by simpa using hc), List.take_of_length_le (by omega)]
theorem partU_lt {z : Int} {m : List Rw} {l : List ByteArray} {q : Int} (hr : ∀ r, r ∈ m → okW r.2 = true ∧ r.1 = z ∧ rtS z r.2 = true) (h0 : 0 ≤ z) (h1 : z ≤ 64) (hq : 0 ≤ q) : ∀ v, v ∈ partU z m l q → v < 2 ^ (z + 8).toNat := by
  intro v hv
  unfold partU at hv
  rw [List.mem_iff_getElem?] at hv
  obtain ⟨i, hi⟩ := hv
  rw [List.getElem?_zipWith] at hi
  cases ha : m[i]? with
  | none => rw [ha] at hi; simp at hi
  | some r =>
    cases hb : l[i]? with
    | none => rw [ha, hb] at hi; simp at hi
    | some s =>
      rw [ha, hb] at hi
      have hi : aug z.toNat (val r.2) (byteAt s q) = v := Option.some.inj hi
      rw [← hi]
      exact (part_row h0 h1 (hr r (List.mem_of_getElem? ha)).2.2 s hq).2
theorem r5part_fact (z : Int) (m : List (Int × List Int)) (l : List ByteArray) (q : Int) (hg : (rdOk z m l && decide (0 ≤ q) && decide (q < 64) && l.all fun s => decide (q < (s.size : Int))) = true) : Fact Tryd.prog noG 84 [.agg [.s (.int .i64 z), .lt (.pair (.int .i64) (.sl (.int .u64))) m], .ls l, .s (.int .i64 q)] [] (.lt (.pair (.int .i64) (.sl (.int .u64))) ((partM z m l q) : List (Int × List Int)), []) := by
  simp only [Bool.and_eq_true, decide_eq_true_eq] at hg
  rw [List.all_eq_true] at hg
  obtain ⟨⟨⟨hrd, q0⟩, q2⟩, q1⟩ := hg
  obtain ⟨hok, hm, hl, hb⟩ := rdOk_iff.1 hrd
  obtain ⟨⟨n0, n1⟩, hx, hrows⟩ := mrt_iff.1 hm
  obtain ⟨⟨b0, b1⟩, b2, b3⟩ := bok_iff.1 hb
  have hr : ∀ r, r ∈ m → okW r.2 = true ∧ r.1 = z ∧ rtS z r.2 = true := fun r hr => ⟨okM_iff.1 hok r hr, (hrows r hr).1, (hrows r hr).1 ▸ (hrows r hr).2⟩
  have hs : ∀ s, s ∈ l → q < (s.size : Int) ∧ s.size ≤ 64 := fun s hs => by have := b3 s hs; have := of_decide_eq_true (q1 s hs); omega
  refine callN_fact hN hM T_r5Bits_ok (n := 70) (mode := mode23) ?_
  rw [r5partF_eq]
  unfold r5partF r5partF_s1
  have h2 := fun k0 => r5part_out (R := Out) 70 (by decide) z n0 n1 m l hl hx hr q ⟨q0, by omega⟩ hs k0 70 0 (by omega) (by omega)
  rw [List.take_zero, show mrs (z + 8) [] = [] from rfl, List.length_nil, show ((0 : Nat) : Int) = 0 from rfl] at h2
  dsimp only
  rw [h2]
  unfold r5partF_s6
  have hlt := partU_lt (l := l) hr n0 n1 q0
  have hpl := partU_len (z := z) (q := q) hl
  have hrt : rtM (z + 8) (mrs (z + 8) (partU z m l q)) = true := by
    rw [rtM_eq]; unfold rtMI
    simp only [Bool.and_eq_true, decide_eq_true_eq, List.all_eq_true]
    refine ⟨⟨⟨by omega, by omega⟩, by rw [mrs_len]; omega⟩, fun r h => ?_⟩
    obtain ⟨v, hv, rfl⟩ := List.mem_map.1 h
    obtain ⟨a, b, c⟩ := mr_rt (n := z + 8) (by omega) (by omega) (hlt v hv)
    exact ⟨⟨rfl, a⟩, b⟩
  have hvals : vals (mrs (z + 8) (partU z m l q)) = partU z m l q := by
    unfold vals mrs
    rw [List.map_map]
    refine (List.map_congr_left fun v hm => ?_).trans (List.map_id _)
    exact (mr_rt (n := z + 8) (by omega) (by omega) (hlt v hm)).2.2
  rw [wrap_i64 (by omega) (by omega), List.drop_zero, List.take_length, grd_of hrt, echR_eq, partM_eq]
  unfold echRI partMI
  rw [hvals]
noncomputable def r5part_ent : List V → List Blk → Option (Bool × Out)
  | [.agg [.s (.int .i64 z), w0], w1, .s (.int .i64 q)], [] => (asSl (.pair (.int .i64) (.sl (.int .u64))) w0).bind fun m => (asSl .str w1).bind fun l => some ((rdOk z m l && decide (0 ≤ q) && decide (q < 64) && l.all fun s => decide (q < (s.size : Int))), (.lt (.pair (.int .i64) (.sl (.int .u64))) ((partM z m l q) : List (Int × List Int)), []))
  | _, _ => none
theorem r5part_ok : ∀ args bs out, r5part_ent args bs = some (true, out) → Fact Tryd.prog noG 84 args bs out := by
  intro args bs out h
  unfold r5part_ent at h
  split at h
  · rename_i z w0 w1 q
    obtain ⟨m, h_m, h⟩ := Option.bind_eq_some_iff.1 h
    obtain ⟨l, h_l, h⟩ := Option.bind_eq_some_iff.1 h
    simp only [Option.some.injEq, Prod.mk.injEq] at h
    obtain ⟨hg, rfl⟩ := h
    exact (r5part_fact z m l q hg).args (fun _ _ _ => fun _ h => RVs_two (fun _ h => RV_agg_two (fun _ h => RVs_two (fun _ h => h) (fun _ h => RVs_two (fun _ h => RV_sl (s := (.pair (.int .i64) (.sl (.int .u64)))) h_m h) (fun _ h => h) h) h) h) (fun _ h => RVs_two (fun _ h => RV_ls h_l h) (fun _ h => h) h) h)
  · cases h
noncomputable def T_r5part : Tbl := Tbl.cons 84 r5part_ent T_r5Bits
theorem T_r5part_ok : CallOk Tryd.prog noG T_r5part := cons_ok T_r5Bits_ok r5part_ok
def mode24 : FuncId → Nat := fun f => 0
/-! One byte's equations of many. -/
def pr (N q u : Nat) : Nat := aug N (lo N u) (lo 8 (hi (8 * q) (hi N u)))
theorem pr_lo (N q u : Nat) : lo N (pr N q u) = lo N u := lo_aug (lo_lt _ _)
theorem pr_hi (N q u : Nat) : hi N (pr N q u) = lo 8 (hi (8 * q) (hi N u)) := hi_aug (lo_lt _ _)
theorem pr_xor (N q u w : Nat) : pr N q (u ^^^ w) = pr N q u ^^^ pr N q w := by
  unfold pr
  rw [aug_xor (lo_lt _ _) (lo_lt _ _), lo_xor, hi_xor, hi_xor, lo_xor]
theorem pr_zero (N q : Nat) : pr N q 0 = 0 := by simp [pr, lo, hi, aug]
theorem pr_lt (N q u : Nat) : pr N q u < 2 ^ (N + 8) := aug_lt (lo_lt _ _) (lo_lt _ _)
theorem pr_bit {N q u i : Nat} (h : i < N) : (pr N q u).testBit i = u.testBit i := by
  have := lo_bit N (pr N q u) i
  rw [pr_lo, lo_bit, decide_eq_true h, Bool.true_and, Bool.true_and] at this
  exact this.symm
theorem prS {N q : Nat} {us : List Nat} {u : Nat} (h : Sp us u) : Sp (us.map (pr N q)) (pr N q u) := by
  induction h with
  | zero => rw [pr_zero]; exact .zero
  | step ha _ ih => rw [pr_xor]; exact .step (List.mem_map.2 ⟨_, ha, rfl⟩) ih
theorem prU {N q : Nat} {us : List Nat} {v : Nat} (h : Sp (us.map (pr N q)) v) : ∃ u, Sp us u ∧ pr N q u = v := by
  induction h with
  | zero => exact ⟨0, .zero, pr_zero N q⟩
  | step ha _ ih =>
    obtain ⟨u, hu, rfl⟩ := ih
    obtain ⟨b, hb, rfl⟩ := List.mem_map.1 ha
    exact ⟨u ^^^ b, .step hb hu, pr_xor N q u b⟩
theorem fit_pr {N : Nat} {us : List Nat} (hF : Fit N us) (q : Nat) : Fit N (us.map (pr N q)) := fun w hw e => by
  obtain ⟨u, hu, rfl⟩ := prU hw
  rw [pr_lo] at e
  rw [hF u hu e, pr_zero]
theorem red_pr {N : Nat} {us : List Nat} (hF : Fit N us) (q : Nat) : red (us.map (pr N q)) = (red us).map fun x => (x.1, pr N q x.2) := by
  refine red_eq ⟨⟨fun x hx => ?_, ?_, fun x hx y hy hne => ?_⟩, fun w => ?_⟩
  · obtain ⟨y, hy, rfl⟩ := List.mem_map.1 hx
    have hf := (red_is us).1.fst y hy
    have hp := (fit_places hF hy).1
    exact ⟨by rw [pr_bit hp]; exact hf.1, fun b hb => by
      have hb : b < y.1 := hb
      rw [pr_bit (by omega)]; exact hf.2 b hb⟩
  · rw [List.pairwise_map]; exact (red_is us).1.inc
  · obtain ⟨x', hx', rfl⟩ := List.mem_map.1 hx
    obtain ⟨y', hy', rfl⟩ := List.mem_map.1 hy
    show (pr N q y'.2).testBit x'.1 = false
    rw [pr_bit (fit_places hF hx').1, (red_is us).1.own x' hx' y' hy' hne]
  · have e : Lin.rows ((red us).map fun x => (x.1, pr N q x.2)) = (Lin.rows (red us)).map (pr N q) := by unfold Lin.rows; rw [List.map_map, List.map_map]; rfl
    rw [e]
    constructor
    · intro h
      obtain ⟨u, hu, rfl⟩ := prU h
      exact prS (((red_is us).2 u).1 hu)
    · intro h
      obtain ⟨u, hu, rfl⟩ := prU h
      exact prS (((red_is us).2 u).2 hu)
theorem byteAt_hi (s : ByteArray) (q : Nat) : byteAt s (q : Int) = lo 8 (hi (8 * q) (bval (bytesL s))) := by
  refine Nat.eq_of_testBit_eq fun i => ?_
  rw [lo_bit, hi_bit, testBit_bval (bytes_ok s)]
  by_cases h : i < 8
  · rw [decide_eq_true h, Bool.true_and, show (8 * q + i) / 8 = q by omega, show (8 * q + i) % 8 = i by omega]
    unfold byteAt
    rw [Int.toNat_natCast]
  · rw [decide_eq_false h, Bool.false_and, Nat.testBit_lt_two_pow (Nat.lt_of_lt_of_le (byteAt_lt s q) (by rw [show (256 : Nat) = 2 ^ 8 from rfl]; exact Nat.pow_le_pow_right (by decide) (by omega)))]
theorem partU_pr {z : Int} (q : Nat) : ∀ {m : List Rw} {l : List ByteArray}, (∀ r, r ∈ m → val r.2 < 2 ^ z.toNat) → partU z m l (q : Int) = (augs z m l).map (pr z.toNat q)
  | [], l, _ => by simp [partU, augs]
  | r :: m, [], _ => by simp [partU, augs]
  | r :: m, s :: l, h => by
    have ih := partU_pr (z := z) q (m := m) (l := l) fun x hx => h x (List.mem_cons_of_mem _ hx)
    have hr := h r List.mem_cons_self
    unfold partU augs at ih ⊢
    rw [List.zipWith_cons_cons, List.zipWith_cons_cons, List.map_cons, ih]
    congr 1
    unfold pr
    rw [lo_aug hr, hi_aug hr, byteAt_hi]
theorem fits_iff {N n : Nat} {us : List Nat} (hlt : ∀ u, u ∈ us → u < 2 ^ (N + 8 * n)) : Fit N us ↔ ∀ q, q < n → ∀ x, x ∈ red (us.map (pr N q)) → x.1 < N := by
  constructor
  · intro hF q _ x hx
    exact (fit_places (fit_pr hF q) hx).1
  · intro h u hu e
    have hz : ∀ q, q < n → pr N q u = 0 := fun q hq => by
      apply Classical.byContradiction
      intro hne
      obtain ⟨p, hp⟩ := exists_fst hne
      obtain ⟨x, hx, rfl⟩ := (red_is (us.map (pr N q))).1.fst_mem (((red_is _).2 _).2 (prS hu)) hp
      have hN := h q hq x hx
      have h1 := hp.1
      rw [pr_bit hN] at h1
      have h2 := lo_bit N u x.1
      rw [e, Nat.zero_testBit, h1, decide_eq_true hN] at h2
      cases h2
    have hh : hi N u = 0 := Lin.eq_zero_of_testBit fun i => by
      by_cases hin : i < 8 * n
      · have h1 := congrArg (hi N) (hz (i / 8) (by omega))
        rw [pr_hi, show hi N 0 = 0 by simp [hi]] at h1
        have h2 := lo_bit 8 (hi (8 * (i / 8)) (hi N u)) (i % 8)
        rw [h1, Nat.zero_testBit, decide_eq_true (Nat.mod_lt _ (by decide)), Bool.true_and, hi_bit, show 8 * (i / 8) + i % 8 = i by omega] at h2
        exact h2.symm
      · exact Nat.testBit_lt_two_pow (Nat.lt_of_lt_of_le (hi_lt (sp_lt hlt hu)) (Nat.pow_le_pow_right (by decide) (by omega)))
    have := aug_lohi N u
    rw [e, hh] at this
    rw [← this]; simp [aug]
/-- A reduced row, as the document reads it. -/
theorem row_first {n : Int} (h0 : 0 ≤ n) (h1 : n ≤ 512) {us : List Nat} (hv : ∀ v, v ∈ us → v < 2 ^ n.toNat) {x : Nat × Nat} (hx : x ∈ red us) : okW (words (nw n) x.2) = true ∧ rtS n (words (nw n) x.2) = true ∧ frS n (words (nw n) x.2) = (x.1 : Int) ∧ fp x.2 = x.1 := by
  have hlt := ((red_is us).lt hv hx).1
  have hf := (red_is us).1.fst x hx
  obtain ⟨a, b, c⟩ := mr_rt h0 h1 hlt
  have hfp := (fp_fst h1 hlt hf).1
  refine ⟨a, b, ?_, hfp⟩
  rw [frS_words h0 h1 hlt, if_neg (fun e => by have := hf.1; rw [e, Nat.zero_testBit] at this; cases this), hfp]
theorem mrs_rows_get {n : Int} {r : List (Nat × Nat)} {j : Nat} (h : j < r.length) : ix (mrs n (Lin.rows r)) (j : Int) = some (n, words (nw n) (r[j]).2) := by
  rw [ix_nat]
  unfold mrs Lin.rows
  rw [List.map_map, List.getElem?_map, List.getElem?_eq_getElem h]; rfl
theorem mrs_rows_len (n : Int) (r : List (Nat × Nat)) : (mrs n (Lin.rows r)).length = r.length := by unfold mrs Lin.rows; rw [List.map_map, List.length_map]
/-- What a matrix with blocks is, byte by byte. -/
theorem part_is {z : Int} {m : List Rw} {l : List ByteArray} (h : rdOk z m l = true) (q : Nat) : partM z m l (q : Int) = mrs (z + 8) (Lin.rows (red ((augs z m l).map (pr z.toNat q)))) ∧ ∀ v, v ∈ (augs z m l).map (pr z.toNat q) → v < 2 ^ (z + 8).toNat := by
  obtain ⟨hok, hm, hl, hb⟩ := rdOk_iff.1 h
  obtain ⟨⟨n0, n1⟩, hx, hrows⟩ := mrt_iff.1 hm
  constructor
  · rw [partM_eq]; unfold partMI
    rw [partU_pr q fun r hr => by
      obtain ⟨h1, h2⟩ := hrows r hr
      have := (rtS_iff.1 h2).2.2
      rwa [h1] at this]
  · intro v hv
    obtain ⟨u, _, rfl⟩ := List.mem_map.1 hv
    rw [show (z + 8).toNat = z.toNat + 8 by omega]
    exact pr_lt _ _ _
theorem augs_lt {z : Int} {m : List Rw} {l : List ByteArray} {n : Nat} (h : rdOk z m l = true) (hs : ∀ s, s ∈ l → s.size = n) : ∀ u, u ∈ augs z m l → u < 2 ^ (z.toNat + 8 * n) := by
  obtain ⟨hok, hm, hl, hb⟩ := rdOk_iff.1 h
  obtain ⟨_, _, hrows⟩ := mrt_iff.1 hm
  exact (zip_eqs (fun r hr => ⟨okM_iff.1 hok r hr, (hrows r hr).1, (hrows r hr).1 ▸ (hrows r hr).2⟩) hs).2.2
def goodFrom (f : Nat → Bool) : Nat → Nat → Bool
  | 0, _ => true
  | d + 1, q => f q && goodFrom f d (q + 1)
theorem good_iff {f : Nat → Bool} : ∀ {d q : Nat}, goodFrom f d q = true ↔ ∀ i, q ≤ i → i < q + d → f i = true
  | 0, q => by simp only [goodFrom, true_iff]; intro i h1 h2; omega
  | d + 1, q => by
    rw [goodFrom, Bool.and_eq_true, good_iff]
    constructor
    · rintro ⟨h1, h2⟩ i h3 h4
      rcases Nat.eq_or_lt_of_le h3 with rfl | h3
      · exact h1
      · exact h2 i h3 (by omega)
    · intro h
      exact ⟨h q (Nat.le_refl _) (by omega), fun i h1 h2 => h i (by omega) (by omega)⟩
noncomputable def gdAt (z : Int) (us : List Nat) (q : Nat) : Bool := (red (us.map (pr z.toNat q))).all fun x => decide (x.1 < z.toNat)
theorem one_word {n i : Int} (h0 : 0 ≤ i) (h1 : i < n) (hn : n ≤ 512) : ofS n [i] = words (nw n) (2 ^ i.toNat) ∧ 2 ^ i.toNat < 2 ^ n.toNat := by
  have hlt : 2 ^ i.toNat < 2 ^ n.toNat := Nat.pow_lt_pow_right (by decide) (by omega)
  obtain ⟨a, b, c⟩ := mr_rt (n := n) (by omega) hn hlt
  refine ⟨(words_of (okW_iff.1 a) (rtS_iff.1 b).2.1 fun j => ?_).symm, hlt⟩
  rw [c, Nat.testBit_two_pow]
  by_cases h : i.toNat = j
  · rw [decide_eq_true h, decide_eq_true]
    exact ⟨by simp; omega, by omega⟩
  · rw [decide_eq_false h, decide_eq_false]
    rintro ⟨h2, _⟩
    simp at h2
    omega
def tdF (f : Int → Bool) : Nat → Nat → List Int
  | 0, _ => []
  | d + 1, i => if f (i : Int) = true then (i : Int) :: tdF f d (i + 1) else tdF f d (i + 1)
theorem tdF_len (f : Int → Bool) : ∀ d i, (tdF f d i).length ≤ d
  | 0, i => Nat.le_refl _
  | d + 1, i => by
    have := tdF_len f d (i + 1)
    rw [tdF]
    by_cases h : f (i : Int) = true
    · rw [if_pos h, List.length_cons]; omega
    · rw [if_neg h]; omega
theorem tdF_mem (f : Int → Bool) : ∀ d i x, x ∈ tdF f d i ↔ ∃ j : Nat, i ≤ j ∧ j < i + d ∧ x = (j : Int) ∧ f (j : Int) = true
  | 0, i, x => by
    simp only [tdF, List.not_mem_nil, false_iff]
    rintro ⟨j, h1, h2, _⟩; omega
  | d + 1, i, x => by
    have ih := tdF_mem f d (i + 1) x
    rw [tdF]
    by_cases h : f (i : Int) = true
    · rw [if_pos h, List.mem_cons, ih]
      constructor
      · rintro (rfl | ⟨j, h1, h2, h3, h4⟩)
        · exact ⟨i, Nat.le_refl _, by omega, rfl, h⟩
        · exact ⟨j, by omega, by omega, h3, h4⟩
      · rintro ⟨j, h1, h2, h3, h4⟩
        rcases Nat.eq_or_lt_of_le h1 with rfl | h1
        · exact .inl h3
        · exact .inr ⟨j, h1, by omega, h3, h4⟩
    · rw [if_neg h, ih]
      constructor
      · rintro ⟨j, h1, h2, h3, h4⟩
        exact ⟨j, by omega, by omega, h3, h4⟩
      · rintro ⟨j, h1, h2, h3, h4⟩
        rcases Nat.eq_or_lt_of_le h1 with rfl | h1
        · exact absurd h4 h
        · exact ⟨j, h1, by omega, h3, h4⟩
theorem tdF_inc (f : Int → Bool) : ∀ d i, (tdF f d i).Pairwise (· < ·)
  | 0, i => List.Pairwise.nil
  | d + 1, i => by
    rw [tdF]
    by_cases h : f (i : Int) = true
    · rw [if_pos h, List.pairwise_cons]
      refine ⟨fun x hx => ?_, tdF_inc f d (i + 1)⟩
      obtain ⟨j, h1, _, rfl, _⟩ := (tdF_mem f d (i + 1) x).1 hx
      omega
    · rw [if_neg h]; exact tdF_inc f d (i + 1)
theorem inc_ext : ∀ {a b : List Int}, a.Pairwise (· < ·) → b.Pairwise (· < ·) → (∀ x, x ∈ a ↔ x ∈ b) → a = b
  | [], [], _, _, _ => rfl
  | [], y :: b, _, _, h => by have := (h y).2 List.mem_cons_self; simp at this
  | x :: a, [], _, _, h => by have := (h x).1 List.mem_cons_self; simp at this
  | x :: a, y :: b, ha, hb, h => by
    rw [List.pairwise_cons] at ha hb
    have e : x = y := by
      rcases List.mem_cons.1 ((h x).1 List.mem_cons_self) with e | h1
      · exact e
      · rcases List.mem_cons.1 ((h y).2 List.mem_cons_self) with e | h2
        · exact e.symm
        · have := hb.1 x h1
          have := ha.1 y h2
          omega
    subst e
    rw [inc_ext ha.2 hb.2 fun z => ?_]
    constructor
    · intro hz
      rcases List.mem_cons.1 ((h z).1 (List.mem_cons_of_mem _ hz)) with rfl | h1
      · have := ha.1 z hz; omega
      · exact h1
    · intro hz
      rcases List.mem_cons.1 ((h z).2 (List.mem_cons_of_mem _ hz)) with rfl | h1
      · have := hb.1 z hz; omega
      · exact h1
/-- What is told, by the document. -/
theorem ech_told {z : Int} {m : List Rw} {l : List ByteArray} (hrd : rdOk z m l = true) (hF : Fit z.toNat (augs z m l)) : nzM z (echR z m) = true ∧ rtM z m = true ∧ (augs z m l).map (lo z.toNat) = vals m ∧ ∀ i : Nat, i < z.toNat → (toldB z (echR z m) (i : Int) = true ↔ ∃ x, x ∈ kR z m l ∧ x.1 = i) := by
  obtain ⟨hok, hm, hl, hb⟩ := rdOk_iff.1 hrd
  obtain ⟨⟨z0, z1⟩, hx, hrows⟩ := mrt_iff.1 hm
  obtain ⟨_, hvl, _⟩ := mrt_vals hok hm
  have hv : ∀ v, v ∈ vals m → v < 2 ^ z.toNat := fun v h => hvl.mem h
  have hlo : (augs z m l).map (lo z.toNat) = vals m := (zip_eqs (k := szL l) (fun r hr => ⟨okM_iff.1 hok r hr, (hrows r hr).1, (hrows r hr).1 ▸ (hrows r hr).2⟩) (fun s hs => by
    obtain ⟨_, _, h3⟩ := bok_iff.1 hb
    have := h3 s hs; omega)).2.1 hl.symm
  obtain ⟨e1, e2⟩ := nz_mrs (nz_red z0 (by omega) (red_is (vals m)) hv)
  have hR := red_is (vals m)
  have he : echR z m = mrs z (Lin.rows (red (vals m))) := by rw [echR_eq]; rfl
  refine ⟨by rw [he]; exact e1, ?_, hlo, fun i hi => ?_⟩
  · rw [rtM_eq]; unfold rtMI
    simp only [Bool.and_eq_true, decide_eq_true_eq, List.all_eq_true]
    exact ⟨⟨⟨z0, by omega⟩, by omega⟩, fun r h => ⟨⟨(hrows r h).1, okM_iff.1 hok r h⟩, (hrows r h).1 ▸ (hrows r h).2⟩⟩
  · rw [toldB_eq, kR_eq]; unfold toldI kRI
    rw [he, e2, wR_red (by omega) hR.1 (fun x h => (hR.lt hv h).1), decide_eq_true_eq, hR.1.left_zero_iff, Int.toNat_natCast]
    constructor
    · intro hspr
      have hf : IsFst (2 ^ i) i := ⟨by rw [Nat.testBit_two_pow]; simp, fun q hq => by rw [Nat.testBit_two_pow, decide_eq_false (by omega)]⟩
      obtain ⟨x, hx, e⟩ := hR.1.fst_mem hspr hf
      have hc := hR.1.comb_self hspr
      rw [comb_one hR.1.nodup hx (by rw [e]; exact hf.1) fun w hw hne => by
        rw [Nat.testBit_two_pow]
        exact decide_eq_false fun e2 => hne (hR.1.places_inj hw hx (by omega))] at hc
      rw [← hlo, fit_red hF] at hx
      obtain ⟨w, hw, rfl⟩ := List.mem_map.1 hx
      have hc : lo z.toNat w.2 = 2 ^ i := hc
      have e : w.1 = i := e
      exact ⟨w, List.mem_filter.2 ⟨hw, decide_eq_true (by rw [hc, e])⟩, e⟩
    · rintro ⟨w, hw, e⟩
      obtain ⟨h1, h2⟩ := List.mem_filter.1 hw
      have h2 : lo z.toNat w.2 = 2 ^ w.1 := of_decide_eq_true h2
      rw [← e, ← h2]
      refine .of_mem (List.mem_map.2 ⟨(w.1, lo z.toNat w.2), ?_, rfl⟩)
      rw [← hlo, fit_red hF]
      exact List.mem_map.2 ⟨w, h1, rfl⟩
theorem told_list {z : Int} {m : List Rw} {l : List ByteArray} (hrd : rdOk z m l = true) (hF : Fit z.toNat (augs z m l)) : tdF (toldB z (echR z m)) z.toNat 0 = kA z m l := by
  obtain ⟨_, _, _, h⟩ := ech_told hrd hF
  have hkA : kA z m l = (kR z m l).map fun x => (x.1 : Int) := by rw [kA_eq]; rfl
  refine inc_ext (tdF_inc _ _ _) ?_ fun x => ?_
  · rw [hkA, List.pairwise_map, kR_eq]; unfold kRI
    refine (List.Pairwise.filter _ (red_is _).1.inc).imp fun h => ?_
    omega
  · rw [tdF_mem, hkA, List.mem_map]
    constructor
    · rintro ⟨j, _, h2, rfl, h4⟩
      obtain ⟨w, hw, e⟩ := (h j (by omega)).1 h4
      exact ⟨w, hw, by rw [e]⟩
    · rintro ⟨w, hw, rfl⟩
      have hz : w.1 < z.toNat := by
        have hw := hw
        rw [kR_eq] at hw
        exact (fit_places hF (List.mem_filter.1 hw).1).1
      exact ⟨w.1, Nat.zero_le _, by omega, rfl, (h w.1 hz).2 ⟨w, hw, rfl⟩⟩
/-- A told block's byte. -/
theorem part_byte {z : Int} {m : List Rw} {l : List ByteArray} (hrd : rdOk z m l = true) (hF : Fit z.toNat (augs z m l)) (q : Nat) {x : Nat × Nat} (hx : x ∈ kR z m l) : nzM (z + 8) (partM z m l (q : Int)) = true ∧ (x.1 : Int) < z ∧ byteS z (partM z m l (q : Int)) (x.1 : Int) = ((lo 8 (hi (8 * q) (hi z.toNat x.2)) : Nat) : Int) := by
  obtain ⟨hok, hm, hl, hb⟩ := rdOk_iff.1 hrd
  obtain ⟨⟨z0, z1⟩, hx2, hrows⟩ := mrt_iff.1 hm
  obtain ⟨p1, p2⟩ := part_is hrd q
  have hR := red_is ((augs z m l).map (pr z.toNat q))
  obtain ⟨e1, e2⟩ := nz_mrs (nz_red (n := z + 8) (by omega) (by omega) hR p2)
  rw [kR_eq] at hx
  have hxm := (List.mem_filter.1 hx).1
  have hz := (fit_places hF hxm).1
  refine ⟨by rw [p1]; exact e1, by omega, ?_⟩
  rw [byteS_eq]; unfold byteI
  rw [p1, e2, Int.toNat_natCast]
  have hy : (x.1, pr z.toNat q x.2) ∈ red ((augs z m l).map (pr z.toNat q)) := by
    rw [red_pr hF]; exact List.mem_map.2 ⟨x, hxm, rfl⟩
  have key : (Lin.rows (red ((augs z m l).map (pr z.toNat q)))).find? (fun v => fp v == x.1) = some (pr z.toNat q x.2) := by
    cases hc : (Lin.rows (red ((augs z m l).map (pr z.toNat q)))).find? (fun v => fp v == x.1) with
    | none =>
      have h1 := List.find?_eq_none.1 hc _ (List.mem_map.2 ⟨_, hy, rfl⟩)
      have h2 := (row_first (n := z + 8) (by omega) (by omega) p2 hy).2.2.2
      have h2 : fp (pr z.toNat q x.2) = x.1 := h2
      exact absurd (by simpa using h2) h1
    | some v =>
      have h1 := List.find?_some hc
      obtain ⟨y, hy2, rfl⟩ := List.mem_map.1 (List.mem_of_find?_eq_some hc)
      have h2 := (row_first (n := z + 8) (by omega) (by omega) p2 hy2).2.2.2
      have h3 : fp y.2 = x.1 := by simpa using h1
      have := hR.1.places_inj hy2 hy (by show y.1 = x.1; omega)
      rw [this]
  rw [key]
  show ((hi z.toNat (pr z.toNat q x.2) : Nat) : Int) = _
  rw [pr_hi]
theorem byts_succ : ∀ (q s : Nat), byts (q + 1) s = byts q s ++ [((lo 8 (hi (8 * q) s) : Nat) : Int)]
  | 0, s => by
    show [((s % 256 : Nat) : Int)] = [((s / 2 ^ 0 % 2 ^ 8 : Nat) : Int)]
    rw [Nat.pow_zero, Nat.div_one]
  | q + 1, s => by
    have h := byts_succ q (s / 256)
    rw [byts, h, byts]
    unfold hi
    rw [Nat.div_div_eq_div_mul, show 256 * 2 ^ (8 * q) = 2 ^ (8 * (q + 1)) by rw [Nat.mul_add, Nat.pow_add]; omega]
    rfl
theorem txt_snoc {a : List Int} {b : Int} (ha : ByteOk a) (hb : 0 ≤ b ∧ b < 256) : txt a ++ txt [b] = txt (a ++ [b]) := by
  have h : (txt a ++ txt [b]).data = (txt (a ++ [b])).data := by
    unfold txt
    rw [ByteArray.data_append]
    simp
  exact ByteArray.ext h
theorem mix2_get {α β : Type} {r : List α} (f g : α → β) {j : Nat} (h : j < r.length) : ((r.take j).map f ++ (r.drop j).map g)[0 + j]? = some (g r[j]) := by
  rw [Nat.zero_add, List.getElem?_append_right (by rw [List.length_map, List.length_take]; omega), List.length_map, List.length_take, show j - min j r.length = 0 by omega, List.getElem?_map, List.getElem?_drop, List.getElem?_eq_getElem (by omega)]
  rfl
theorem mix2_set {α β : Type} {r : List α} (f g : α → β) {j : Nat} (h : j < r.length) : ((r.take j).map f ++ (r.drop j).map g).set (0 + j) (f r[j]) = (r.take (j + 1)).map f ++ (r.drop (j + 1)).map g := by
  have hl : ((r.take j).map f).length = j := by rw [List.length_map, List.length_take]; omega
  rw [Nat.zero_add, List.set_append_right _ _ (by rw [hl]; exact Nat.le_refl _), hl, Nat.sub_self, List.drop_eq_getElem_cons h, List.map_cons, List.set_cons_zero, List.take_add_one, List.getElem?_eq_getElem h, List.map_append, List.append_assoc]
  rfl
/-! downpour/downpourref05.Fits -/
noncomputable abbrev qf9 : Code := (sub (bodyOf Tryd.prog 34) [1, 0, 1, 0, 0])
noncomputable abbrev qf10 (fuel : Nat) : Ctx Out := (fnX Tryd.prog mode24 T_r5part fuel 30 0)
noncomputable abbrev qf11 (z : Int) (m : List (Int × List Int)) : Nat × Option Blk := (0, some ⟨24, .agg [vI z, vR m], true⟩)
noncomputable abbrev qf12 : Nat × V := (6, vB false)
noncomputable abbrev qf13 : Nat × V := (3, .ptr 0 2 0 0)
noncomputable abbrev qf14 : List Nat := [1, 2, 3, 6, 7, 10, 11, 12, 15, 16, 17, 18, 19, 20]
noncomputable def r5FitsF_s3 {R : Type} (w0 w1 : Int) (w2 : List (Int × List Int)) (z : Int) (w3 : Bool) (n : Int) (l : List ByteArray) (w4 : Int) (m : List (Int × List Int)) (c0 : Bool → (List (Int × List Int)) → Int → Int → Bool → Int → List Int → Int → Bool → Option R) (c1 : Bool → (List (Int × List Int)) → Int → Int → Option R) (c2 : Bool → (List (Int × List Int)) → Int → Int → Bool → Option R) : Option R :=
  br (decide (w0 < w1))
    (bnd (ix w2 w0) fun e0 =>
    grd (okW e0.2 && rtS e0.1 e0.2) <|
    br (decide ((frS e0.1 e0.2) ≥ z))
      (c0 w3 w2 w1 w0 (decide (w0 < w1)) e0.1 e0.2 (frS e0.1 e0.2) (decide ((frS e0.1 e0.2) ≥ z)))
      (c1 w3 w2 w1 (IntKind.i64.wrap (w0 + 1))))
    (c2 w3 w2 w1 w0 (decide (w0 < w1)))
theorem r5FitsF_s3_eq (fuel k : Nat) (K : Ex → St → Option Out) (w0 w1 : Int) (w2 : List (Int × List Int)) (z : Int) (w3 : Bool) (n : Int) (l : List ByteArray) (w4 : Int) (m : List (Int × List Int)) : lpN (sub qf9 [1, 0, 0, 1, 0, 0]) (qf10 fuel) 1073741518 qf14 (k + 1) ⟨[(1, vI n), (2, .ls l), qf13, qf12, (7, vI w4), (10, vI w4), (11, vI n), (12, vB w3), (15, .agg [vI z, vR m]), (16, .ls l), (17, vI w4), (18, vR w2), (19, vI w1), (20, vI w0)], [(qf11 z m)], 1, none⟩ K = r5FitsF_s3 w0 w1 w2 z w3 n l w4 m (fun a0 a1 a2 a3 a4 a5 a6 a7 a8 => K .ret ⟨[(1, vI n), (2, .ls l), qf13, qf12, (7, vI w4), (9, .ptr 1 2 0 0), (10, vI w4), (11, vI n), (12, vB a0), (15, .agg [vI z, vR m]), (16, .ls l), (17, vI w4), (18, vR a1), (19, vI a2), (20, vI a3), (21, vB a4), (22, .lp [vI a5, vW a6] 0), (23, .agg [vI a5, vW a6]), (24, .agg [vI a5, vW a6]), (25, vI a7), (26, .ptr 0 2 0 0), (27, vI z), (28, vB a8)], [(qf11 z m), (1, some ⟨44, .agg [vI a5, vW a6], true⟩)], 2, none⟩) (fun a9 a10 a11 a12 => lpN (sub qf9 [1, 0, 0, 1, 0, 0]) (qf10 fuel) 1073741518 qf14 k ⟨[(1, vI n), (2, .ls l), qf13, qf12, (7, vI w4), (10, vI w4), (11, vI n), (12, vB a9), (15, .agg [vI z, vR m]), (16, .ls l), (17, vI w4), (18, vR a10), (19, vI a11), (20, vI a12)], [(qf11 z m)], 1, none⟩ K) (fun a13 a14 a15 a16 a17 => K (.exit 2) ⟨[(1, vI n), (2, .ls l), qf13, qf12, (7, vI w4), (10, vI w4), (11, vI n), (12, vB a13), (15, .agg [vI z, vR m]), (16, .ls l), (17, vI w4), (18, vR a14), (19, vI a15), (20, vI a16), (21, vB a17)], [(qf11 z m)], 1, none⟩) := by kernel_rfl
noncomputable def r5FitsF_l2 {R : Type} (fuel : Nat) (n : Int) (l : List ByteArray) (w0 z : Int) (m : List (Int × List Int)) (k0 : Bool → (List (Int × List Int)) → Int → Int → Bool → Int → List Int → Int → Bool → Option R) (k1 : Bool → (List (Int × List Int)) → Int → Int → Bool → Option R) : Nat → Bool → (List (Int × List Int)) → Int → Int → Option R
  | 0, _, _, _, _ => none
  | k + 1, w1, w2, w3, w4 =>
    (r5FitsF_s3 w4 w3 w2 z w1 n l w0 m (fun a0 a1 a2 a3 a4 a5 a6 a7 a8 => k0 a0 a1 a2 a3 a4 a5 a6 a7 a8) (fun a9 a10 a11 a12 => ( r5FitsF_l2 fuel n l w0 z m k0 k1 k a9 a10 a11 a12 )) (fun a13 a14 a15 a16 a17 => k1 a13 a14 a15 a16 a17))
theorem r5FitsF_l2_eq (fuel : Nat) (n : Int) (l : List ByteArray) (w0 z : Int) (m : List (Int × List Int)) (K : Ex → St → Option Out) : ∀ (k : Nat) (w1 : Bool) (w2 : List (Int × List Int)) (w3 w4 : Int), lpN (sub qf9 [1, 0, 0, 1, 0, 0]) (qf10 fuel) 1073741518 qf14 k ⟨[(1, vI n), (2, .ls l), qf13, qf12, (7, vI w0), (10, vI w0), (11, vI n), (12, vB w1), (15, .agg [vI z, vR m]), (16, .ls l), (17, vI w0), (18, vR w2), (19, vI w3), (20, vI w4)], [(qf11 z m)], 1, none⟩ K = r5FitsF_l2 fuel n l w0 z m (fun y0 y1 y2 y3 y4 y5 y6 y7 y8 => K .ret ⟨[(1, vI n), (2, .ls l), qf13, qf12, (7, vI w0), (9, .ptr 1 2 0 0), (10, vI w0), (11, vI n), (12, vB y0), (15, .agg [vI z, vR m]), (16, .ls l), (17, vI w0), (18, vR y1), (19, vI y2), (20, vI y3), (21, vB y4), (22, .lp [vI y5, vW y6] 0), (23, .agg [vI y5, vW y6]), (24, .agg [vI y5, vW y6]), (25, vI y7), (26, .ptr 0 2 0 0), (27, vI z), (28, vB y8)], [(qf11 z m), (1, some ⟨44, .agg [vI y5, vW y6], true⟩)], 2, none⟩) (fun y9 y10 y11 y12 y13 => K (.exit 2) ⟨[(1, vI n), (2, .ls l), qf13, qf12, (7, vI w0), (10, vI w0), (11, vI n), (12, vB y9), (15, .agg [vI z, vR m]), (16, .ls l), (17, vI w0), (18, vR y10), (19, vI y11), (20, vI y12), (21, vB y13)], [(qf11 z m)], 1, none⟩) k w1 w2 w3 w4
  | 0, _, _, _, _ => rfl
  | k + 1, w1, w2, w3, w4 => by
    unfold r5FitsF_l2
    exact (r5FitsF_s3_eq fuel k K w4 w3 w2 z w1 n l w0 m).trans (congr (congr (congr (Eq.refl (r5FitsF_s3 (R := Out) w4 w3 w2 z w1 n l w0 m)) (rfl)) (funext fun a0 => funext fun a1 => funext fun a2 => funext fun a3 => r5FitsF_l2_eq fuel n l w0 z m K k a0 a1 a2 a3)) (rfl))
noncomputable def r5FitsF_s4 {R : Type} (n : Int) (l : List ByteArray) (w0 : Int) (x0 : Bool) (z : Int) (m x1 : List (Int × List Int)) (x2 x3 : Int) (x4 : Bool) (x5 : Int) (x6 : List Int) (x7 : Int) (x8 : Bool) (c0 : Option R) : Option R :=
  c0
theorem r5FitsF_s4_eq (fuel k : Nat) (K : Ex → St → Option Out) (n : Int) (l : List ByteArray) (w0 : Int) (x0 : Bool) (z : Int) (m x1 : List (Int × List Int)) (x2 x3 : Int) (x4 : Bool) (x5 : Int) (x6 : List Int) (x7 : Int) (x8 : Bool) : (kont (qf10 fuel) qf9 [1, 0, 0, 1, 0] 1073741518 (rdK qf9 (qf10 fuel) 64 [1, 2, 3, 6, 7] k K)) .ret ⟨[(1, vI n), (2, .ls l), qf13, qf12, (7, vI w0), (9, .ptr 1 2 0 0), (10, vI w0), (11, vI n), (12, vB x0), (15, .agg [vI z, vR m]), (16, .ls l), (17, vI w0), (18, vR x1), (19, vI x2), (20, vI x3), (21, vB x4), (22, .lp [vI x5, vW x6] 0), (23, .agg [vI x5, vW x6]), (24, .agg [vI x5, vW x6]), (25, vI x7), (26, .ptr 0 2 0 0), (27, vI z), (28, vB x8)], [(qf11 z m), (1, some ⟨44, .agg [vI x5, vW x6], true⟩)], 2, none⟩ = r5FitsF_s4 n l w0 x0 z m x1 x2 x3 x4 x5 x6 x7 x8 (K .ret ⟨[qf12], [], 0, none⟩) := by kernel_rfl
noncomputable def r5FitsF_s5 {R : Type} (w0 n : Int) (l : List ByteArray) (x0 : Bool) (z : Int) (m x1 : List (Int × List Int)) (x2 x3 : Int) (x4 : Bool) (c0 : Int → Option R) : Option R :=
  c0 (IntKind.i64.wrap (w0 + 1))
theorem r5FitsF_s5_eq (fuel k : Nat) (K : Ex → St → Option Out) (w0 n : Int) (l : List ByteArray) (x0 : Bool) (z : Int) (m x1 : List (Int × List Int)) (x2 x3 : Int) (x4 : Bool) : (kont (qf10 fuel) qf9 [1, 0, 0, 1, 0] 1073741518 (rdK qf9 (qf10 fuel) 64 [1, 2, 3, 6, 7] k K)) (.exit 2) ⟨[(1, vI n), (2, .ls l), qf13, qf12, (7, vI w0), (10, vI w0), (11, vI n), (12, vB x0), (15, .agg [vI z, vR m]), (16, .ls l), (17, vI w0), (18, vR x1), (19, vI x2), (20, vI x3), (21, vB x4)], [(qf11 z m)], 1, none⟩ = r5FitsF_s5 w0 n l x0 z m x1 x2 x3 x4 (fun a0 => lpN qf9 (qf10 fuel) 64 [1, 2, 3, 6, 7] k ⟨[(1, vI n), (2, .ls l), qf13, qf12, (7, vI a0)], [(qf11 z m)], 1, none⟩ K) := by kernel_rfl
noncomputable def r5FitsF_s2 {R : Type} (w0 n z : Int) (m : List (Int × List Int)) (l : List ByteArray) (c0 : Bool → (List (Int × List Int)) → Int → Int → Option R) (c1 : Option R) : Option R :=
  br (decide (w0 < n))
    (grd (rdOk z m l && decide (0 ≤ w0) && decide (w0 < 64) && l.all fun s => decide (w0 < (s.size : Int))) <|
    c0 (decide (w0 < n)) (partM z m l w0) (((partM z m l w0).length : Nat) : Int) 0)
    (c1)
theorem r5FitsF_s2_eq (fuel k : Nat) (K : Ex → St → Option Out) (w0 n z : Int) (m : List (Int × List Int)) (l : List ByteArray) : lpN qf9 (qf10 fuel) 64 [1, 2, 3, 6, 7] (k + 1) ⟨[(1, vI n), (2, .ls l), qf13, qf12, (7, vI w0)], [(qf11 z m)], 1, none⟩ K = r5FitsF_s2 w0 n z m l (fun a0 a1 a2 a3 => lpN (sub qf9 [1, 0, 0, 1, 0, 0]) (qf10 fuel) 1073741518 qf14 fuel ⟨[(1, vI n), (2, .ls l), qf13, qf12, (7, vI w0), (10, vI w0), (11, vI n), (12, vB a0), (15, .agg [vI z, vR m]), (16, .ls l), (17, vI w0), (18, vR a1), (19, vI a2), (20, vI a3)], [(qf11 z m)], 1, none⟩ (kont (qf10 fuel) qf9 [1, 0, 0, 1, 0] 1073741518 (rdK qf9 (qf10 fuel) 64 [1, 2, 3, 6, 7] k K))) (K (.exit 0) ⟨[qf12], [], 0, none⟩) := by kernel_rfl
noncomputable def r5FitsF_l1 {R : Type} (fuel : Nat) (n : Int) (l : List ByteArray) (z : Int) (m : List (Int × List Int)) (k0 k1 : Option R) : Nat → Int → Option R
  | 0, _ => none
  | k + 1, w0 =>
    (r5FitsF_s2 w0 n z m l (fun a0 a1 a2 a3 => (r5FitsF_l2 fuel n l w0 z m (fun x0 x1 x2 x3 x4 x5 x6 x7 x8 => (r5FitsF_s4 n l w0 x0 z m x1 x2 x3 x4 x5 x6 x7 x8 (k0))) (fun x9 x10 x11 x12 x13 => (r5FitsF_s5 w0 n l x9 z m x10 x11 x12 x13 (fun a4 => ( r5FitsF_l1 fuel n l z m k0 k1 k a4 )))) fuel a0 a1 a2 a3)) (k1))
theorem r5FitsF_l1_eq (fuel : Nat) (n : Int) (l : List ByteArray) (z : Int) (m : List (Int × List Int)) (K : Ex → St → Option Out) : ∀ (k : Nat) (w0 : Int), lpN qf9 (qf10 fuel) 64 [1, 2, 3, 6, 7] k ⟨[(1, vI n), (2, .ls l), qf13, qf12, (7, vI w0)], [(qf11 z m)], 1, none⟩ K = r5FitsF_l1 fuel n l z m (K .ret ⟨[qf12], [], 0, none⟩) (K (.exit 0) ⟨[qf12], [], 0, none⟩) k w0
  | 0, _ => rfl
  | k + 1, w0 => by
    unfold r5FitsF_l1
    exact (r5FitsF_s2_eq fuel k K w0 n z m l).trans (congr (congr (Eq.refl (r5FitsF_s2 (R := Out) w0 n z m l)) (funext fun a0 => funext fun a1 => funext fun a2 => funext fun a3 => (r5FitsF_l2_eq fuel n l w0 z m (kont (qf10 fuel) qf9 [1, 0, 0, 1, 0] 1073741518 (rdK qf9 (qf10 fuel) 64 [1, 2, 3, 6, 7] k K)) fuel a0 a1 a2 a3).trans (congrFun (congrFun (congrFun (congrFun (congrFun (congr (congr (Eq.refl (r5FitsF_l2 (R := Out) fuel n l w0 z m)) (funext fun x0 => funext fun x1 => funext fun x2 => funext fun x3 => funext fun x4 => funext fun x5 => funext fun x6 => funext fun x7 => funext fun x8 => (r5FitsF_s4_eq fuel k K n l w0 x0 z m x1 x2 x3 x4 x5 x6 x7 x8))) (funext fun x9 => funext fun x10 => funext fun x11 => funext fun x12 => funext fun x13 => (r5FitsF_s5_eq fuel k K w0 n l x9 z m x10 x11 x12 x13).trans (congr (Eq.refl (r5FitsF_s5 (R := Out) w0 n l x9 z m x10 x11 x12 x13)) (funext fun a4 => r5FitsF_l1_eq fuel n l z m K k a4)))) fuel) a0) a1) a2) a3))) (rfl))
noncomputable def r5FitsF_s6 {R : Type}  (c0 : Bool → Option R) : Option R :=
  c0 false
theorem r5FitsF_s6_eq (fuel : Nat)   : (kont (qf10 fuel) (bodyOf Tryd.prog 34) [1, 0, 1, 0] 64 (endK Tryd.prog 0 0 34)) .ret ⟨[qf12], [], 0, none⟩ = r5FitsF_s6  (fun a0 => some (vB a0, [])) := by kernel_rfl
noncomputable def r5FitsF_s7 {R : Type}  (c0 : Bool → Option R) : Option R :=
  c0 true
theorem r5FitsF_s7_eq (fuel : Nat)   : (kont (qf10 fuel) (bodyOf Tryd.prog 34) [1, 0, 1, 0] 64 (endK Tryd.prog 0 0 34)) (.exit 0) ⟨[qf12], [], 0, none⟩ = r5FitsF_s7  (fun a0 => some (vB a0, [])) := by kernel_rfl
noncomputable def r5FitsF_s1 {R : Type} (z : Int) (m : List (Int × List Int)) (n : Int) (l : List ByteArray) (c0 : Int → Option R) : Option R :=
  c0 0
theorem r5FitsF_s1_eq (fuel : Nat)  (z : Int) (m : List (Int × List Int)) (n : Int) (l : List ByteArray) : callN Tryd.prog mode24 T_r5part fuel 34 [.agg [vI z, vR m], vI n, .ls l] [] = r5FitsF_s1 z m n l (fun a0 => lpN qf9 (qf10 fuel) 64 [1, 2, 3, 6, 7] fuel ⟨[(1, vI n), (2, .ls l), qf13, qf12, (7, vI a0)], [(qf11 z m)], 1, none⟩ (kont (qf10 fuel) (bodyOf Tryd.prog 34) [1, 0, 1, 0] 64 (endK Tryd.prog 0 0 34))) := by kernel_rfl
noncomputable def r5FitsF {R : Type} (fuel : Nat) (z : Int) (m : List (Int × List Int)) (n : Int) (l : List ByteArray) (r0 : Bool → Option R) : Option R :=
  (r5FitsF_s1 z m n l (fun a0 => (r5FitsF_l1 fuel n l z m ((r5FitsF_s6 (fun a1 => r0 a1))) ((r5FitsF_s7 (fun a2 => r0 a2))) fuel a0)))
theorem r5FitsF_eq (fuel : Nat) (z : Int) (m : List (Int × List Int)) (n : Int) (l : List ByteArray) : callN Tryd.prog mode24 T_r5part fuel 34 [.agg [.s (.int .i64 z), .lt (.pair (.int .i64) (.sl (.int .u64))) m], .s (.int .i64 n), .ls l] [] = r5FitsF fuel z m n l (fun z0 => some (.s (.bool z0), [])) := by
  unfold r5FitsF
  exact (r5FitsF_s1_eq fuel  z m n l).trans (congr (Eq.refl (r5FitsF_s1 (R := Out) z m n l)) (funext fun a0 => (r5FitsF_l1_eq fuel n l z m (kont (qf10 fuel) (bodyOf Tryd.prog 34) [1, 0, 1, 0] 64 (endK Tryd.prog 0 0 34)) fuel a0).trans (congrFun (congrFun (congr (congr (Eq.refl (r5FitsF_l1 (R := Out) fuel n l z m)) ((r5FitsF_s6_eq fuel  ))) ((r5FitsF_s7_eq fuel  ))) fuel) a0)))
theorem r5Fits_in {R : Type} (fuel : Nat) (n : Int) (l : List ByteArray) (q z : Int) (m : List Rw) (h0 : 0 ≤ z) (h1 : z ≤ 64) (us : List Nat) (hv : ∀ v, v ∈ us → v < 2 ^ (z + 8).toNat) (w : Bool) (K0 K1 : Option R) (hl : (red us).length ≤ 1000) : ∀ (d k j : Nat), j + d = (red us).length → d < k →
    r5FitsF_l2 fuel n l q z m (fun _ _ _ _ _ _ _ _ _ => K0) (fun _ _ _ _ _ => K1) k w (mrs (z + 8) (Lin.rows (red us))) ((mrs (z + 8) (Lin.rows (red us))).length : Int) (j : Int) = if ((red us).drop j).all (fun x => decide (x.1 < z.toNat)) = true then K1 else K0
  | 0, 0, j, hj, hk => by omega
  | 0, k + 1, j, hj, hk => by
    unfold r5FitsF_l2 r5FitsF_s3
    rw [mrs_rows_len, br_if, if_neg (by simp; omega), List.drop_eq_nil_of_le (by omega)]
    rfl
  | d + 1, 0, j, hj, hk => by omega
  | d + 1, k + 1, j, hj, hk => by
    have hjl : j < (red us).length := by omega
    obtain ⟨a, b, c, _⟩ := row_first (n := z + 8) (by omega) (by omega) hv (List.getElem_mem hjl)
    unfold r5FitsF_l2 r5FitsF_s3
    rw [mrs_rows_len, br_if, if_pos (by simp; omega), bnd_of (mrs_rows_get hjl), grd_of (by rw [a, b]; rfl), br_if, c, List.drop_eq_getElem_cons hjl, List.all_cons]
    by_cases hc : ((red us)[j]).1 < z.toNat
    · rw [if_neg (by simp; omega), wrap_i64 (by omega) (by omega), show (j : Int) + 1 = ((j + 1 : Nat) : Int) by omega, decide_eq_true hc, Bool.true_and]
      have := r5Fits_in fuel n l q z m h0 h1 us hv w K0 K1 hl d k (j + 1) (by omega) (by omega)
      rw [mrs_rows_len] at this
      exact this
    · rw [if_pos (by simp; omega), decide_eq_false hc, Bool.false_and, if_neg (by decide)]
theorem r5Fits_out {R : Type} (fuel : Nat) (hf : 80 < fuel) (n : Nat) (hn : n ≤ 64) (l : List ByteArray) (hs : ∀ s, s ∈ l → s.size = n) (z : Int) (h0 : 0 ≤ z) (h1 : z ≤ 64) (m : List Rw) (hrd : rdOk z m l = true) (k0 k1 : Option R) : ∀ (d k q : Nat), q + d = n → d < k →
    r5FitsF_l1 fuel (n : Int) l z m k0 k1 k (q : Int) = if goodFrom (gdAt z (augs z m l)) d q = true then k1 else k0
  | 0, 0, q, hq, hk => by omega
  | 0, k + 1, q, hq, hk => by
    unfold r5FitsF_l1 r5FitsF_s2
    rw [br_if, if_neg (by simp; omega), goodFrom, if_pos rfl]
  | d + 1, 0, q, hq, hk => by omega
  | d + 1, k + 1, q, hq, hk => by
    obtain ⟨p1, p2⟩ := part_is hrd q
    have hlen := (red_is ((augs z m l).map (pr z.toNat q))).len p2
    unfold r5FitsF_l1 r5FitsF_s2
    rw [br_if, if_pos (by simp; omega), grd_of (by
      simp only [Bool.and_eq_true, decide_eq_true_eq, List.all_eq_true]
      exact ⟨⟨⟨hrd, by omega⟩, by omega⟩, fun s h => by rw [hs s h]; omega⟩), p1]
    refine (r5Fits_in (R := R) fuel (n : Int) l (q : Int) z m h0 h1 _ p2 (decide ((q : Int) < (n : Int))) k0 (r5FitsF_l1 fuel (n : Int) l z m k0 k1 k (IntKind.i64.wrap ((q : Int) + 1))) (by omega) (red ((augs z m l).map (pr z.toNat q))).length fuel 0 (by omega) (by omega)).trans ?_
    rw [List.drop_zero, goodFrom, wrap_i64 (by omega) (by omega), show (q : Int) + 1 = ((q + 1 : Nat) : Int) by omega, r5Fits_out fuel hf n hn l hs z h0 h1 m hrd k0 k1 d k (q + 1) (by omega) (by omega)]
    show (if gdAt z (augs z m l) q = true then _ else _) = _
    cases gdAt z (augs z m l) q <;> simp
theorem r5Fits_fact (z : Int) (m : List (Int × List Int)) (n : Int) (l : List ByteArray) (hg : (rdOk z m l && bok n l) = true) : Fact Tryd.prog noG 34 [.agg [.s (.int .i64 z), .lt (.pair (.int .i64) (.sl (.int .u64))) m], .s (.int .i64 n), .ls l] [] (.s (.bool (fitB z m l)), []) := by
  rw [Bool.and_eq_true] at hg
  obtain ⟨hrd, hb⟩ := hg
  obtain ⟨hok, hm, hl, _⟩ := rdOk_iff.1 hrd
  obtain ⟨⟨z0, z1⟩, hx, hrows⟩ := mrt_iff.1 hm
  obtain ⟨⟨b0, b1⟩, b2, b3⟩ := bok_iff.1 hb
  obtain ⟨n, rfl⟩ : ∃ k : Nat, n = (k : Int) := ⟨n.toNat, by omega⟩
  have hs : ∀ s, s ∈ l → s.size = n := fun s h => by have := b3 s h; omega
  refine callN_fact hN hM T_r5part_ok (n := 100) (mode := mode24) ?_
  rw [r5FitsF_eq]
  unfold r5FitsF r5FitsF_s1
  have ho := fun k0 k1 => r5Fits_out (R := Out) 100 (by decide) n (by omega) l hs z z0 z1 m hrd k0 k1 n 100 0 (by omega) (by omega)
  rw [show ((0 : Nat) : Int) = 0 from rfl] at ho
  dsimp only
  rw [ho]
  unfold r5FitsF_s6 r5FitsF_s7
  have key : goodFrom (gdAt z (augs z m l)) n 0 = fitB z m l := by
    rw [Bool.eq_iff_iff, fit_iff, good_iff, fits_iff (augs_lt hrd hs)]
    constructor
    · intro h q hq x hx
      exact of_decide_eq_true (List.all_eq_true.1 (h q (Nat.zero_le _) (by omega)) x hx)
    · intro h q _ hq
      exact List.all_eq_true.2 fun x hx => decide_eq_true (h q (by omega) x hx)
  rw [key]
  cases fitB z m l <;> rfl
noncomputable def r5Fits_ent : List V → List Blk → Option (Bool × Out)
  | [.agg [.s (.int .i64 z), w0], .s (.int .i64 n), w1], [] => (asSl (.pair (.int .i64) (.sl (.int .u64))) w0).bind fun m => (asSl .str w1).bind fun l => some ((rdOk z m l && bok n l), (.s (.bool (fitB z m l)), []))
  | _, _ => none
theorem r5Fits_ok : ∀ args bs out, r5Fits_ent args bs = some (true, out) → Fact Tryd.prog noG 34 args bs out := by
  intro args bs out h
  unfold r5Fits_ent at h
  split at h
  · rename_i z w0 n w1
    obtain ⟨m, h_m, h⟩ := Option.bind_eq_some_iff.1 h
    obtain ⟨l, h_l, h⟩ := Option.bind_eq_some_iff.1 h
    simp only [Option.some.injEq, Prod.mk.injEq] at h
    obtain ⟨hg, rfl⟩ := h
    exact (r5Fits_fact z m n l hg).args (fun _ _ _ => fun _ h => RVs_two (fun _ h => RV_agg_two (fun _ h => RVs_two (fun _ h => h) (fun _ h => RVs_two (fun _ h => RV_sl (s := (.pair (.int .i64) (.sl (.int .u64)))) h_m h) (fun _ h => h) h) h) h) (fun _ h => RVs_two (fun _ h => h) (fun _ h => RVs_two (fun _ h => RV_ls h_l h) (fun _ h => h) h) h) h)
  · cases h
noncomputable def T_r5Fits : Tbl := Tbl.cons 34 r5Fits_ent T_r5part
theorem T_r5Fits_ok : CallOk Tryd.prog noG T_r5Fits := cons_ok T_r5part_ok r5Fits_ok
/-! downpour/downpourref05.told -/
noncomputable def r5toldF_s1 {R : Type} (n i : Int) (r : List (Int × List Int)) (c0 : Bool → Option R) : Option R :=
  grd (decide (0 ≤ n) && decide (n ≤ 512) && decide (([i]).length ≤ 1000000)) <|
  grd (nzM n r && (okW (ofS n ([i])) && rtS n (ofS n ([i])))) <|
  grd (okW (leftW n r (ofS n ([i]))) && rtS n (leftW n r (ofS n ([i])))) <|
  c0 (decide (((frS n (leftW n r (ofS n ([i])))) : Int) < 0))
theorem r5toldF_s1_eq (fuel : Nat)  (n i : Int) (r : List (Int × List Int)) : callN Tryd.prog mode24 T_r5Fits fuel 87 [vR r, vI n, vI i] [] = r5toldF_s1 n i r (fun a1 => some (vB a1, [])) := by kernel_rfl
noncomputable def r5toldF {R : Type} (fuel : Nat) (r : List (Int × List Int)) (n i : Int) (r0 : Bool → Option R) : Option R :=
  (r5toldF_s1 n i r (fun a1 => r0 a1))
theorem r5toldF_eq (fuel : Nat) (r : List (Int × List Int)) (n i : Int) : callN Tryd.prog mode24 T_r5Fits fuel 87 [.lt (.pair (.int .i64) (.sl (.int .u64))) r, .s (.int .i64 n), .s (.int .i64 i)] [] = r5toldF fuel r n i (fun z0 => some (.s (.bool z0), [])) := by
  unfold r5toldF
  exact (r5toldF_s1_eq fuel  n i r)
theorem r5told_fact (r : List (Int × List Int)) (n : Int) (i : Int) (hg : (nzM n r && decide (0 ≤ i) && decide (i < n) && decide (n ≤ 64)) = true) : Fact Tryd.prog noG 87 [.lt (.pair (.int .i64) (.sl (.int .u64))) r, .s (.int .i64 n), .s (.int .i64 i)] [] (.s (.bool (toldB n r i)), []) := by
  simp only [Bool.and_eq_true, decide_eq_true_eq] at hg
  obtain ⟨⟨⟨hz, i0⟩, i1⟩, i2⟩ := hg
  obtain ⟨⟨⟨n0, n1⟩, nl, nv⟩, _, _⟩ := nz_of hz
  obtain ⟨w1, w2⟩ := one_word i0 i1 (by omega)
  obtain ⟨a, b, c⟩ := mr_rt n0 n1 w2
  have hlt : left (wR (vals r)) (2 ^ i.toNat) < 2 ^ n.toNat := left_lt5 (fun x hx => by
    obtain ⟨v, hv, rfl⟩ := List.mem_map.1 hx
    exact (nv v hv).2) w2
  have hw : leftW n r (ofS n [i]) = words (nw n) (left (wR (vals r)) (2 ^ i.toNat)) := by
    rw [leftW_eq]; unfold leftWI
    rw [w1, c]
  obtain ⟨d, e, f⟩ := mr_rt n0 n1 hlt
  refine callN_fact hN hM T_r5Fits_ok (n := 10) (mode := mode24) ?_
  rw [r5toldF_eq]
  unfold r5toldF r5toldF_s1
  rw [grd_of (by simp; omega), hw, w1, grd_of (by rw [hz, a, b]; rfl), grd_of (by rw [d, e]; rfl), frS_words n0 n1 hlt, toldB_eq]
  unfold toldI
  by_cases h : left (wR (vals r)) (2 ^ i.toNat) = 0
  · rw [if_pos h, decide_eq_true h]; rfl
  · rw [if_neg h, decide_eq_false h, decide_eq_false (by omega)]
noncomputable def r5told_ent : List V → List Blk → Option (Bool × Out)
  | [w0, .s (.int .i64 n), .s (.int .i64 i)], [] => (asSl (.pair (.int .i64) (.sl (.int .u64))) w0).bind fun r => some ((nzM n r && decide (0 ≤ i) && decide (i < n) && decide (n ≤ 64)), (.s (.bool (toldB n r i)), []))
  | _, _ => none
theorem r5told_ok : ∀ args bs out, r5told_ent args bs = some (true, out) → Fact Tryd.prog noG 87 args bs out := by
  intro args bs out h
  unfold r5told_ent at h
  split at h
  · rename_i w0 n i
    obtain ⟨r, h_r, h⟩ := Option.bind_eq_some_iff.1 h
    simp only [Option.some.injEq, Prod.mk.injEq] at h
    obtain ⟨hg, rfl⟩ := h
    exact (r5told_fact r n i hg).args (fun _ _ _ => fun _ h => RVs_two (fun _ h => RV_sl (s := (.pair (.int .i64) (.sl (.int .u64)))) h_r h) (fun _ h => h) h)
  · cases h
noncomputable def T_r5told : Tbl := Tbl.cons 87 r5told_ent T_r5Fits
theorem T_r5told_ok : CallOk Tryd.prog noG T_r5told := cons_ok T_r5Fits_ok r5told_ok
/-! downpour/downpourref05.byteOf -/
noncomputable abbrev qf15 : Code := (sub (bodyOf Tryd.prog 88) [1, 0, 1, 0, 0])
noncomputable abbrev qf16 (fuel : Nat) : Ctx Out := (fnX Tryd.prog mode24 T_r5told fuel 36 0)
noncomputable abbrev qf17 : Nat × V := (6, .s (.int .u8 0))
noncomputable abbrev qf18 : List Nat := [1, 2, 6, 8, 9, 10, 11, 12, 13, 14, 15, 16, 17, 18, 19, 20]
noncomputable abbrev qf19 : Code := (sub qf15 [1, 1, 0, 0, 1, 1, 0, 1, 0, 1, 0, 0])
noncomputable def r5byteF_s3 {R : Type} (w0 : Int) (w1 : List Int) (n w2 : Int) (w3 : Bool) (w4 w5 : Int) (w6 : Bool) (i : Int) (r : List (Int × List Int)) (w7 w8 : Int) (c0 : Int → Int → Bool → Int → List Int → Int → Bool → Option R) (c1 : Int → Int → Bool → Int → List Int → Int → Bool → Bool → Option R) : Option R :=
  br (decide (w0 ≥ 0))
    (grd (okW w1 && decide (0 ≤ (IntKind.i64.wrap (n + w0))) && decide ((IntKind.i64.wrap (n + w0)) < 64 * (w1.length : Int)) && decide (w1.length ≤ 1000000)) <|
    c0 (IntKind.i64.wrap ((IntKind.i64.wrap (2 * w2)) + (bitS w1 (IntKind.i64.wrap (n + w0))))) (IntKind.i64.wrap (w0 - 1)) w3 w4 w1 w5 w6)
    (c1 w2 w0 w3 w4 w1 w5 w6 (decide (w0 ≥ 0)))
theorem r5byteF_s3_eq (fuel k : Nat) (K : Ex → St → Option Out) (w0 : Int) (w1 : List Int) (n w2 : Int) (w3 : Bool) (w4 w5 : Int) (w6 : Bool) (i : Int) (r : List (Int × List Int)) (w7 w8 : Int) : lpN qf19 (qf16 fuel) 68719476550 qf18 (k + 1) ⟨[(1, vI n), (2, vI i), qf17, (8, .ptr 0 2 0 0), (9, vI w2), (10, vI w0), (11, vR r), (12, vI w7), (13, vI w8), (14, vB w3), (15, .lp [vI w4, vW w1] 0), (16, .agg [vI w4, vW w1]), (17, .agg [vI w4, vW w1]), (18, vI w5), (19, vI i), (20, vB w6)], [(0, some ⟨44, .agg [vI w4, vW w1], true⟩)], 1, none⟩ K = r5byteF_s3 w0 w1 n w2 w3 w4 w5 w6 i r w7 w8 (fun a0 a1 a2 a3 a4 a5 a6 => lpN qf19 (qf16 fuel) 68719476550 qf18 k ⟨[(1, vI n), (2, vI i), qf17, (8, .ptr 0 2 0 0), (9, vI a0), (10, vI a1), (11, vR r), (12, vI w7), (13, vI w8), (14, vB a2), (15, .lp [vI a3, vW a4] 0), (16, .agg [vI a3, vW a4]), (17, .agg [vI a3, vW a4]), (18, vI a5), (19, vI i), (20, vB a6)], [(0, some ⟨44, .agg [vI a3, vW a4], true⟩)], 1, none⟩ K) (fun a7 a8 a9 a10 a11 a12 a13 a14 => K (.exit 2) ⟨[(1, vI n), (2, vI i), qf17, (8, .ptr 0 2 0 0), (9, vI a7), (10, vI a8), (11, vR r), (12, vI w7), (13, vI w8), (14, vB a9), (15, .lp [vI a10, vW a11] 0), (16, .agg [vI a10, vW a11]), (17, .agg [vI a10, vW a11]), (18, vI a12), (19, vI i), (20, vB a13), (21, vI a8), (22, vB a14)], [(0, some ⟨44, .agg [vI a10, vW a11], true⟩)], 1, none⟩) := by kernel_rfl
noncomputable def r5byteF_l2 {R : Type} (fuel : Nat) (n i : Int) (r : List (Int × List Int)) (w0 w1 : Int) (k0 : Int → Int → Bool → Int → List Int → Int → Bool → Bool → Option R) : Nat → Int → Int → Bool → Int → List Int → Int → Bool → Option R
  | 0, _, _, _, _, _, _, _ => none
  | k + 1, w2, w3, w4, w5, w6, w7, w8 =>
    (r5byteF_s3 w3 w6 n w2 w4 w5 w7 w8 i r w0 w1 (fun a0 a1 a2 a3 a4 a5 a6 => ( r5byteF_l2 fuel n i r w0 w1 k0 k a0 a1 a2 a3 a4 a5 a6 )) (fun a7 a8 a9 a10 a11 a12 a13 a14 => k0 a7 a8 a9 a10 a11 a12 a13 a14))
theorem r5byteF_l2_eq (fuel : Nat) (n i : Int) (r : List (Int × List Int)) (w0 w1 : Int) (K : Ex → St → Option Out) : ∀ (k : Nat) (w2 w3 : Int) (w4 : Bool) (w5 : Int) (w6 : List Int) (w7 : Int) (w8 : Bool), lpN qf19 (qf16 fuel) 68719476550 qf18 k ⟨[(1, vI n), (2, vI i), qf17, (8, .ptr 0 2 0 0), (9, vI w2), (10, vI w3), (11, vR r), (12, vI w0), (13, vI w1), (14, vB w4), (15, .lp [vI w5, vW w6] 0), (16, .agg [vI w5, vW w6]), (17, .agg [vI w5, vW w6]), (18, vI w7), (19, vI i), (20, vB w8)], [(0, some ⟨44, .agg [vI w5, vW w6], true⟩)], 1, none⟩ K = r5byteF_l2 fuel n i r w0 w1 (fun y0 y1 y2 y3 y4 y5 y6 y7 => K (.exit 2) ⟨[(1, vI n), (2, vI i), qf17, (8, .ptr 0 2 0 0), (9, vI y0), (10, vI y1), (11, vR r), (12, vI w0), (13, vI w1), (14, vB y2), (15, .lp [vI y3, vW y4] 0), (16, .agg [vI y3, vW y4]), (17, .agg [vI y3, vW y4]), (18, vI y5), (19, vI i), (20, vB y6), (21, vI y1), (22, vB y7)], [(0, some ⟨44, .agg [vI y3, vW y4], true⟩)], 1, none⟩) k w2 w3 w4 w5 w6 w7 w8
  | 0, _, _, _, _, _, _, _ => rfl
  | k + 1, w2, w3, w4, w5, w6, w7, w8 => by
    unfold r5byteF_l2
    exact (r5byteF_s3_eq fuel k K w3 w6 n w2 w4 w5 w7 w8 i r w0 w1).trans (congr (congr (Eq.refl (r5byteF_s3 (R := Out) w3 w6 n w2 w4 w5 w7 w8 i r w0 w1)) (funext fun a0 => funext fun a1 => funext fun a2 => funext fun a3 => funext fun a4 => funext fun a5 => funext fun a6 => r5byteF_l2_eq fuel n i r w0 w1 K k a0 a1 a2 a3 a4 a5 a6)) (rfl))
noncomputable def r5byteF_s4 {R : Type} (x0 n i x1 : Int) (r : List (Int × List Int)) (w0 w1 : Int) (x2 : Bool) (x3 : Int) (x4 : List Int) (x5 : Int) (x6 x7 : Bool) (c0 : Int → Option R) : Option R :=
  c0 (IntKind.u8.wrap x0)
theorem r5byteF_s4_eq (fuel k : Nat) (K : Ex → St → Option Out) (x0 n i x1 : Int) (r : List (Int × List Int)) (w0 w1 : Int) (x2 : Bool) (x3 : Int) (x4 : List Int) (x5 : Int) (x6 x7 : Bool) : (kont (qf16 fuel) qf15 [1, 1, 0, 0, 1, 1, 0, 1, 0, 1, 0] 68719476550 (rdK qf15 (qf16 fuel) 64 [1, 2, 6, 11, 12, 13] k K)) (.exit 2) ⟨[(1, vI n), (2, vI i), qf17, (8, .ptr 0 2 0 0), (9, vI x0), (10, vI x1), (11, vR r), (12, vI w0), (13, vI w1), (14, vB x2), (15, .lp [vI x3, vW x4] 0), (16, .agg [vI x3, vW x4]), (17, .agg [vI x3, vW x4]), (18, vI x5), (19, vI i), (20, vB x6), (21, vI x1), (22, vB x7)], [(0, some ⟨44, .agg [vI x3, vW x4], true⟩)], 1, none⟩ = r5byteF_s4 x0 n i x1 r w0 w1 x2 x3 x4 x5 x6 x7 (fun a0 => K .ret ⟨[(6, .s (.int .u8 a0))], [], 0, none⟩) := by kernel_rfl
noncomputable def r5byteF_s2 {R : Type} (w0 w1 : Int) (r : List (Int × List Int)) (i n : Int) (c0 : Int → Int → Bool → Int → List Int → Int → Bool → Option R) (c1 : Int → Int → Option R) (c2 : Option R) : Option R :=
  br (decide (w0 < w1))
    (bnd (ix r w0) fun e0 =>
    grd (okW e0.2 && rtS e0.1 e0.2) <|
    br ((frS e0.1 e0.2) == i)
      (c0 0 7 (decide (w0 < w1)) e0.1 e0.2 (frS e0.1 e0.2) ((frS e0.1 e0.2) == i))
      (c1 w1 (IntKind.i64.wrap (w0 + 1))))
    (c2)
theorem r5byteF_s2_eq (fuel k : Nat) (K : Ex → St → Option Out) (w0 w1 : Int) (r : List (Int × List Int)) (i n : Int) : lpN qf15 (qf16 fuel) 64 [1, 2, 6, 11, 12, 13] (k + 1) ⟨[(1, vI n), (2, vI i), qf17, (11, vR r), (12, vI w1), (13, vI w0)], [], 0, none⟩ K = r5byteF_s2 w0 w1 r i n (fun a0 a1 a2 a3 a4 a5 a6 => lpN qf19 (qf16 fuel) 68719476550 qf18 fuel ⟨[(1, vI n), (2, vI i), qf17, (8, .ptr 0 2 0 0), (9, vI a0), (10, vI a1), (11, vR r), (12, vI w1), (13, vI w0), (14, vB a2), (15, .lp [vI a3, vW a4] 0), (16, .agg [vI a3, vW a4]), (17, .agg [vI a3, vW a4]), (18, vI a5), (19, vI i), (20, vB a6)], [(0, some ⟨44, .agg [vI a3, vW a4], true⟩)], 1, none⟩ (kont (qf16 fuel) qf15 [1, 1, 0, 0, 1, 1, 0, 1, 0, 1, 0] 68719476550 (rdK qf15 (qf16 fuel) 64 [1, 2, 6, 11, 12, 13] k K))) (fun a7 a8 => lpN qf15 (qf16 fuel) 64 [1, 2, 6, 11, 12, 13] k ⟨[(1, vI n), (2, vI i), qf17, (11, vR r), (12, vI a7), (13, vI a8)], [], 0, none⟩ K) (K (.exit 0) ⟨[qf17], [], 0, none⟩) := by kernel_rfl
noncomputable def r5byteF_l1 {R : Type} (fuel : Nat) (n i : Int) (r : List (Int × List Int)) (k0 : Int → Option R) (k1 : Option R) : Nat → Int → Int → Option R
  | 0, _, _ => none
  | k + 1, w0, w1 =>
    (r5byteF_s2 w1 w0 r i n (fun a0 a1 a2 a3 a4 a5 a6 => (r5byteF_l2 fuel n i r w0 w1 (fun x0 x1 x2 x3 x4 x5 x6 x7 => (r5byteF_s4 x0 n i x1 r w0 w1 x2 x3 x4 x5 x6 x7 (fun a7 => k0 a7))) fuel a0 a1 a2 a3 a4 a5 a6)) (fun a8 a9 => ( r5byteF_l1 fuel n i r k0 k1 k a8 a9 )) (k1))
theorem r5byteF_l1_eq (fuel : Nat) (n i : Int) (r : List (Int × List Int)) (K : Ex → St → Option Out) : ∀ (k : Nat) (w0 w1 : Int), lpN qf15 (qf16 fuel) 64 [1, 2, 6, 11, 12, 13] k ⟨[(1, vI n), (2, vI i), qf17, (11, vR r), (12, vI w0), (13, vI w1)], [], 0, none⟩ K = r5byteF_l1 fuel n i r (fun y0 => K .ret ⟨[(6, .s (.int .u8 y0))], [], 0, none⟩) (K (.exit 0) ⟨[qf17], [], 0, none⟩) k w0 w1
  | 0, _, _ => rfl
  | k + 1, w0, w1 => by
    unfold r5byteF_l1
    exact (r5byteF_s2_eq fuel k K w1 w0 r i n).trans (congr (congr (congr (Eq.refl (r5byteF_s2 (R := Out) w1 w0 r i n)) (funext fun a0 => funext fun a1 => funext fun a2 => funext fun a3 => funext fun a4 => funext fun a5 => funext fun a6 => (r5byteF_l2_eq fuel n i r w0 w1 (kont (qf16 fuel) qf15 [1, 1, 0, 0, 1, 1, 0, 1, 0, 1, 0] 68719476550 (rdK qf15 (qf16 fuel) 64 [1, 2, 6, 11, 12, 13] k K)) fuel a0 a1 a2 a3 a4 a5 a6).trans (congrFun (congrFun (congrFun (congrFun (congrFun (congrFun (congrFun (congrFun (congr (Eq.refl (r5byteF_l2 (R := Out) fuel n i r w0 w1)) (funext fun x0 => funext fun x1 => funext fun x2 => funext fun x3 => funext fun x4 => funext fun x5 => funext fun x6 => funext fun x7 => (r5byteF_s4_eq fuel k K x0 n i x1 r w0 w1 x2 x3 x4 x5 x6 x7))) fuel) a0) a1) a2) a3) a4) a5) a6))) (funext fun a7 => funext fun a8 => r5byteF_l1_eq fuel n i r K k a7 a8)) (rfl))
noncomputable def r5byteF_s5 {R : Type} (x0 : Int) (c0 : Int → Option R) : Option R :=
  c0 x0
theorem r5byteF_s5_eq (fuel : Nat)  (x0 : Int) : (kont (qf16 fuel) (bodyOf Tryd.prog 88) [1, 0, 1, 0] 64 (endK Tryd.prog 0 0 88)) .ret ⟨[(6, .s (.int .u8 x0))], [], 0, none⟩ = r5byteF_s5 x0 (fun a0 => some (.s (.int .u8 a0), [])) := by kernel_rfl
noncomputable def r5byteF_s6 {R : Type}  (c0 : Int → Option R) : Option R :=
  c0 0
theorem r5byteF_s6_eq (fuel : Nat)   : (kont (qf16 fuel) (bodyOf Tryd.prog 88) [1, 0, 1, 0] 64 (endK Tryd.prog 0 0 88)) (.exit 0) ⟨[qf17], [], 0, none⟩ = r5byteF_s6  (fun a0 => some (.s (.int .u8 a0), [])) := by kernel_rfl
noncomputable def r5byteF_s1 {R : Type} (r : List (Int × List Int)) (n i : Int) (c0 : Int → Int → Option R) : Option R :=
  c0 ((r.length : Nat) : Int) 0
theorem r5byteF_s1_eq (fuel : Nat)  (r : List (Int × List Int)) (n i : Int) : callN Tryd.prog mode24 T_r5told fuel 88 [vR r, vI n, vI i] [] = r5byteF_s1 r n i (fun a0 a1 => lpN qf15 (qf16 fuel) 64 [1, 2, 6, 11, 12, 13] fuel ⟨[(1, vI n), (2, vI i), qf17, (11, vR r), (12, vI a0), (13, vI a1)], [], 0, none⟩ (kont (qf16 fuel) (bodyOf Tryd.prog 88) [1, 0, 1, 0] 64 (endK Tryd.prog 0 0 88))) := by kernel_rfl
noncomputable def r5byteF {R : Type} (fuel : Nat) (r : List (Int × List Int)) (n i : Int) (r0 : Int → Option R) : Option R :=
  (r5byteF_s1 r n i (fun a0 a1 => (r5byteF_l1 fuel n i r (fun x0 => (r5byteF_s5 x0 (fun a2 => r0 a2))) ((r5byteF_s6 (fun a3 => r0 a3))) fuel a0 a1)))
theorem r5byteF_eq (fuel : Nat) (r : List (Int × List Int)) (n i : Int) : callN Tryd.prog mode24 T_r5told fuel 88 [.lt (.pair (.int .i64) (.sl (.int .u64))) r, .s (.int .i64 n), .s (.int .i64 i)] [] = r5byteF fuel r n i (fun z0 => some (.s (.int .u8 z0), [])) := by
  unfold r5byteF
  exact (r5byteF_s1_eq fuel  r n i).trans (congr (Eq.refl (r5byteF_s1 (R := Out) r n i)) (funext fun a0 => funext fun a1 => (r5byteF_l1_eq fuel n i r (kont (qf16 fuel) (bodyOf Tryd.prog 88) [1, 0, 1, 0] 64 (endK Tryd.prog 0 0 88)) fuel a0 a1).trans (congrFun (congrFun (congrFun (congr (congr (Eq.refl (r5byteF_l1 (R := Out) fuel n i r)) (funext fun x0 => (r5byteF_s5_eq fuel  x0))) ((r5byteF_s6_eq fuel  ))) fuel) a0) a1)))
theorem half_bit (x c : Nat) : x / 2 ^ c = 2 * (x / 2 ^ (c + 1)) + (if x.testBit c = true then 1 else 0) := by
  rw [Nat.pow_succ, ← Nat.div_div_eq_div_mul, Nat.testBit_eq_decide_div_mod_eq]
  have := Nat.mod_lt (x / 2 ^ c) (show 0 < 2 by decide)
  by_cases h : x / 2 ^ c % 2 = 1
  · rw [if_pos (decide_eq_true h)]; omega
  · rw [if_neg (fun g => h (of_decide_eq_true g))]; omega
theorem r5byte_in {R : Type} (fuel : Nat) (n : Nat) (hn : n ≤ 64) (i : Int) (r : List Rw) (w39 w38 : Int) (v : Nat) (hv : v < 2 ^ ((n : Int) + 8).toNat) (w85 : Bool) (w86 w88 : Int) (w89 : Bool) (k0 : Int → Int → Bool → Int → List Int → Int → Bool → Bool → Option R) : ∀ (c k : Nat), c ≤ 8 → c < k →
    r5byteF_l2 fuel (n : Int) i r w39 w38 k0 k ((hi n v / 2 ^ c : Nat) : Int) ((c : Int) - 1) w85 w86 (words (nw ((n : Int) + 8)) v) w88 w89 = k0 ((hi n v : Nat) : Int) (-1) w85 w86 (words (nw ((n : Int) + 8)) v) w88 w89 (decide ((-1 : Int) ≥ 0))
  | 0, 0, hc, hk => by omega
  | 0, k + 1, hc, hk => by
    unfold r5byteF_l2 r5byteF_s3
    rw [br_if, if_neg (by simp), Nat.pow_zero, Nat.div_one, show ((0 : Nat) : Int) - 1 = -1 from rfl]
  | c + 1, 0, hc, hk => by omega
  | c + 1, k + 1, hc, hk => by
    obtain ⟨a, b, _⟩ := mr_rt (n := (n : Int) + 8) (by omega) (by omega) hv
    have hlen := (rtS_iff.1 b).2.1
    have hw := nw_cast (n := (n : Int) + 8) (by omega)
    have h8 := rt_le b
    have hh : hi n v < 256 := by
      have : v < 2 ^ (n + 8) := by rwa [show ((n : Int) + 8).toNat = n + 8 by omega] at hv
      exact hi_lt this
    have hle : hi n v / 2 ^ (c + 1) ≤ hi n v := Nat.div_le_self _ _
    have hle2 : hi n v / 2 ^ c ≤ hi n v := Nat.div_le_self _ _
    have hb := half_bit (hi n v) c
    rw [hi_bit] at hb
    unfold r5byteF_l2 r5byteF_s3
    rw [show ((c + 1 : Nat) : Int) - 1 = (c : Int) by omega, br_if, if_pos (by simp), wrap_i64 (x := (n : Int) + (c : Int)) (by omega) (by omega), grd_of (by rw [a]; simp; omega), show (n : Int) + (c : Int) = ((n + c : Nat) : Int) by omega, bit_mr5 (by omega) (by omega) hv, wrap_i64 (x := 2 * ((hi n v / 2 ^ (c + 1) : Nat) : Int)) (by omega) (by omega)]
    have e : IntKind.i64.wrap (2 * ((hi n v / 2 ^ (c + 1) : Nat) : Int) + (if v.testBit (n + c) = true then 1 else 0)) = ((hi n v / 2 ^ c : Nat) : Int) := by
      by_cases h : v.testBit (n + c) = true
      · rw [if_pos h] at hb ⊢
        rw [wrap_i64 (by omega) (by omega)]; omega
      · rw [if_neg h] at hb ⊢
        rw [wrap_i64 (by omega) (by omega)]; omega
    rw [e, wrap_i64 (by omega) (by omega)]
    exact r5byte_in fuel n hn i r w39 w38 v hv w85 w86 w88 w89 k0 c k (by omega) (by omega)
theorem r5byte_out {R : Type} (fuel : Nat) (hf : 10 < fuel) (n : Nat) (hn : n ≤ 64) (i : Nat) (vs : List Nat) (hz : NZ ((n : Int) + 8) vs) (k0 : Int → Option R) (k1 : Option R) : ∀ (d k j : Nat), j + d = vs.length → d < k →
    r5byteF_l1 fuel (n : Int) (i : Int) (mrs ((n : Int) + 8) vs) k0 k1 k ((mrs ((n : Int) + 8) vs).length : Int) (j : Int) = match (vs.drop j).find? (fun v => fp v == i) with
      | some v => k0 ((hi n v : Nat) : Int)
      | none => k1
  | 0, 0, j, hj, hk => by omega
  | 0, k + 1, j, hj, hk => by
    unfold r5byteF_l1 r5byteF_s2
    rw [mrs_len, br_if, if_neg (by simp; omega), List.drop_eq_nil_of_le (by omega)]
    rfl
  | d + 1, 0, j, hj, hk => by omega
  | d + 1, k + 1, j, hj, hk => by
    have hjl : j < vs.length := by omega
    obtain ⟨⟨h0, h1⟩, hl, hv⟩ := hz
    obtain ⟨hne, hlt⟩ := hv _ (List.getElem_mem hjl)
    obtain ⟨a, b, c⟩ := mr_rt h0 h1 hlt
    have hg : ix (mrs ((n : Int) + 8) vs) (j : Int) = some ((n : Int) + 8, words (nw ((n : Int) + 8)) vs[j]) := by
      rw [ix_nat]
      unfold mrs
      rw [List.getElem?_map, List.getElem?_eq_getElem hjl]; rfl
    have hfr := frS_words h0 h1 hlt
    rw [if_neg hne] at hfr
    have hh : hi n vs[j] < 256 := by
      have : vs[j] < 2 ^ (n + 8) := by rwa [show ((n : Int) + 8).toNat = n + 8 by omega] at hlt
      exact hi_lt this
    unfold r5byteF_l1 r5byteF_s2
    rw [mrs_len, br_if, if_pos (by simp; omega), bnd_of hg, grd_of (by rw [a, b]; rfl), br_if, hfr, List.drop_eq_getElem_cons hjl, List.find?_cons]
    by_cases hc : fp vs[j] = i
    · rw [if_pos (by simp; omega), show (fp vs[j] == i) = true by simp [hc]]
      have he := fun k0 => r5byte_in (R := R) fuel n hn (i : Int) (mrs ((n : Int) + 8) vs) (vs.length : Int) (j : Int) vs[j] hlt (decide ((j : Int) < (vs.length : Int))) ((n : Int) + 8) (fp vs[j] : Int) ((fp vs[j] : Int) == (i : Int)) k0 8 fuel (by omega) (by omega)
      rw [show hi n vs[j] / 2 ^ 8 = 0 from Nat.div_eq_of_lt hh, show ((8 : Nat) : Int) - 1 = 7 from rfl, show ((0 : Nat) : Int) = 0 from rfl] at he
      refine (he _).trans ?_
      unfold r5byteF_s4
      rw [show IntKind.u8.wrap ((hi n vs[j] : Nat) : Int) = ((hi n vs[j] : Nat) : Int) from wrap_u8 (by omega) (by omega)]
    · rw [if_neg (by simp; omega), show (fp vs[j] == i) = false by simp [hc], wrap_i64 (by omega) (by omega), show (j : Int) + 1 = ((j + 1 : Nat) : Int) by omega]
      have := r5byte_out fuel hf n hn i vs ⟨⟨h0, h1⟩, hl, hv⟩ k0 k1 d k (j + 1) (by omega) (by omega)
      rw [mrs_len] at this
      exact this
theorem r5byte_fact (r : List (Int × List Int)) (n : Int) (i : Int) (hg : (nzM (n + 8) r && decide (0 ≤ i) && decide (i < n) && decide (n ≤ 64)) = true) : Fact Tryd.prog noG 88 [.lt (.pair (.int .i64) (.sl (.int .u64))) r, .s (.int .i64 n), .s (.int .i64 i)] [] (.s (.int .u8 (byteS n r i)), []) := by
  simp only [Bool.and_eq_true, decide_eq_true_eq] at hg
  obtain ⟨⟨⟨hz, i0⟩, i1⟩, i2⟩ := hg
  obtain ⟨hnz, hr, hlen⟩ := nz_of hz
  obtain ⟨k, rfl⟩ : ∃ k : Nat, n = (k : Int) := ⟨n.toNat, by omega⟩
  obtain ⟨j, rfl⟩ : ∃ j : Nat, i = (j : Int) := ⟨i.toNat, by omega⟩
  have hl := hnz.2.1
  refine callN_fact hN hM T_r5told_ok (n := 1100) (mode := mode24) ?_
  rw [r5byteF_eq]
  unfold r5byteF r5byteF_s1
  have ho := fun k0 k1 => r5byte_out (R := Out) 1100 (by decide) k (by omega) j (vals r) hnz k0 k1 (vals r).length 1100 0 (by omega) (by omega)
  rw [← hr, show ((0 : Nat) : Int) = 0 from rfl, List.drop_zero] at ho
  dsimp only
  rw [ho, byteS_eq]
  unfold byteI r5byteF_s5 r5byteF_s6
  rw [Int.toNat_natCast, Int.toNat_natCast]
  cases (vals r).find? (fun v => fp v == j) <;> rfl
noncomputable def r5byte_ent : List V → List Blk → Option (Bool × Out)
  | [w0, .s (.int .i64 n), .s (.int .i64 i)], [] => (asSl (.pair (.int .i64) (.sl (.int .u64))) w0).bind fun r => some ((nzM (n + 8) r && decide (0 ≤ i) && decide (i < n) && decide (n ≤ 64)), (.s (.int .u8 (byteS n r i)), []))
  | _, _ => none
theorem r5byte_ok : ∀ args bs out, r5byte_ent args bs = some (true, out) → Fact Tryd.prog noG 88 args bs out := by
  intro args bs out h
  unfold r5byte_ent at h
  split at h
  · rename_i w0 n i
    obtain ⟨r, h_r, h⟩ := Option.bind_eq_some_iff.1 h
    simp only [Option.some.injEq, Prod.mk.injEq] at h
    obtain ⟨hg, rfl⟩ := h
    exact (r5byte_fact r n i hg).args (fun _ _ _ => fun _ h => RVs_two (fun _ h => RV_sl (s := (.pair (.int .i64) (.sl (.int .u64)))) h_r h) (fun _ h => h) h)
  · cases h
noncomputable def T_r5byte : Tbl := Tbl.cons 88 r5byte_ent T_r5told
theorem T_r5byte_ok : CallOk Tryd.prog noG T_r5byte := cons_ok T_r5told_ok r5byte_ok
/-! downpour/downpourref05.Known -/
noncomputable abbrev qf20 (z : Int) (m : List (Int × List Int)) : List (Nat × Option Blk) := [(0, some ⟨24, .agg [vI z, vR m], true⟩), (1, some ⟨60, .agg [vN, vN], true⟩), (2, some ⟨60, .agg [vN, vN], true⟩)]
noncomputable abbrev qf21 (fuel : Nat) : Ctx Out := (fnX Tryd.prog mode24 T_r5byte fuel 75 0)
noncomputable abbrev qf22 : Code := (sub (bodyOf Tryd.prog 35) [1, 1, 1, 1, 0, 1, 0, 0])
noncomputable abbrev qf23 : Nat × Option Blk := (1, some ⟨60, .agg [vN, vN], true⟩)
noncomputable abbrev qf24 (z : Int) (m : List (Int × List Int)) : Nat × Option Blk := (0, some ⟨24, .agg [vI z, vR m], true⟩)
noncomputable abbrev qf25 : Nat × V := (3, .ptr 0 2 0 0)
noncomputable abbrev qf26 : Nat × V := (6, .ptr 1 2 0 0)
noncomputable abbrev qf27 : Nat × V := (7, .ptr 2 2 0 0)
noncomputable abbrev qf28 : Nat := 37778931862407405911246
noncomputable abbrev qf29 : List Nat := [1, 2, 3, 6, 7, 10, 11, 39, 40, 41, 44, 45, 46, 47, 48, 49, 50, 51]
noncomputable abbrev qf30 : Code := (sub (bodyOf Tryd.prog 35) [1, 1, 1, 0, 1, 0, 0])
noncomputable abbrev qf31 : Nat := 18889465931478580854976
noncomputable abbrev qf32 : List Nat := [1, 2, 3, 6, 7, 10]
noncomputable abbrev qf33 : Code := (sub qf22 [1, 0, 0, 1, 1, 0, 0])
noncomputable abbrev qf34 : Nat × V := (48, .ptr 2 2 0 0)
noncomputable abbrev qf35 : Nat × Option Blk := (0, some ⟨60, .agg [vN, vN], true⟩)
noncomputable abbrev qf36 : List (Nat × V) := [(6, .ptr 0 2 0 0), (7, .ptr 1 2 0 0)]
noncomputable abbrev qf37 : Code := (bodyOf Tryd.prog 35)
noncomputable abbrev qf38 (n : Int) (l : List ByteArray) : List (Nat × V) := [(1, vI n), (2, .ls l), qf25, qf26, qf27]
noncomputable abbrev qf39 : List Nat := [1, 2, 3, 6, 7, 8, 9]
noncomputable def r5KnownF_s3 {R : Type} (w0 z : Int) (w1 : List (Int × List Int)) (w2 : List Int) (w3 : Nat) (w4 : List ByteArray) (w5 : Nat) (n : Int) (l : List ByteArray) (m : List (Int × List Int)) (c0 c1 : Int → Nat → Nat → List Int → List ByteArray → Option R) (c2 : Nat → Nat → List Int → List ByteArray → Option R) : Option R :=
  br (decide (w0 < z))
    (grd (nzM z w1 && decide (0 ≤ w0) && decide (w0 < z) && decide (z ≤ 64)) <|
    br (toldB z w1 w0)
      (grd (Nat.beq w2.length w3) <|
      grd (okN (w3 + 1) 8) <|
      grd (Nat.beq w4.length w5) <|
      grd (okN (w5 + 1) 16) <|
      c0 (IntKind.i64.wrap (w0 + 1)) ((w2 ++ [w0]).length) ((w4 ++ [ByteArray.empty]).length) (w2 ++ [w0]) (w4 ++ [ByteArray.empty]))
      (c1 (IntKind.i64.wrap (w0 + 1)) w3 w5 w2 w4))
    (c2 w3 w5 w2 w4)
theorem r5KnownF_s3_eq (fuel k : Nat) (K : Ex → St → Option Out) (w0 z : Int) (w1 : List (Int × List Int)) (w2 : List Int) (w3 : Nat) (w4 : List ByteArray) (w5 : Nat) (n : Int) (l : List ByteArray) (m : List (Int × List Int)) : lpN qf30 (qf21 fuel) qf28 qf39 (k + 1) ⟨[(1, vI n), (2, .ls l), qf25, qf26, qf27, (8, vR w1), (9, vI w0)], [(qf24 z m), qf23, (2, some ⟨60, .agg [.sl 3 1 0 w3, .sl 4 1 0 w5], true⟩), (3, bL 3 w2), (4, some ⟨9, .ls w4, true⟩)], 5, none⟩ K = r5KnownF_s3 w0 z w1 w2 w3 w4 w5 n l m (fun a0 a1 a2 a3 a4 => lpN qf30 (qf21 fuel) qf28 qf39 k ⟨[(1, vI n), (2, .ls l), qf25, qf26, qf27, (8, vR w1), (9, vI a0)], [(qf24 z m), qf23, (2, some ⟨60, .agg [.sl 3 1 0 a1, .sl 4 1 0 a2], true⟩), (3, bL 3 a3), (4, some ⟨9, .ls a4, true⟩)], 5, none⟩ K) (fun a5 a6 a7 a8 a9 => lpN qf30 (qf21 fuel) qf28 qf39 k ⟨[(1, vI n), (2, .ls l), qf25, qf26, qf27, (8, vR w1), (9, vI a5)], [(qf24 z m), qf23, (2, some ⟨60, .agg [.sl 3 1 0 a6, .sl 4 1 0 a7], true⟩), (3, bL 3 a8), (4, some ⟨9, .ls a9, true⟩)], 5, none⟩ K) (fun a53 a54 a55 a56 => K (.exit 0) ⟨(qf38 n l), [(qf24 z m), qf23, (2, some ⟨60, .agg [.sl 3 1 0 a53, .sl 4 1 0 a54], true⟩), (3, bL 3 a55), (4, some ⟨9, .ls a56, true⟩)], 5, none⟩) := by kernel_rfl
noncomputable def r5KnownF_l2 {R : Type} (fuel : Nat) (n : Int) (l : List ByteArray) (w0 : List (Int × List Int)) (z : Int) (m : List (Int × List Int)) (k0 : Nat → Nat → List Int → List ByteArray → Option R) : Nat → Int → Nat → Nat → List Int → List ByteArray → Option R
  | 0, _, _, _, _, _ => none
  | k + 1, w1, w2, w3, w4, w5 =>
    (r5KnownF_s3 w1 z w0 w4 w2 w5 w3 n l m (fun a0 a1 a2 a3 a4 => ( r5KnownF_l2 fuel n l w0 z m k0 k a0 a1 a2 a3 a4 )) (fun a5 a6 a7 a8 a9 => ( r5KnownF_l2 fuel n l w0 z m k0 k a5 a6 a7 a8 a9 )) (fun a53 a54 a55 a56 => k0 a53 a54 a55 a56))
theorem r5KnownF_l2_eq (fuel : Nat) (n : Int) (l : List ByteArray) (w0 : List (Int × List Int)) (z : Int) (m : List (Int × List Int)) (K : Ex → St → Option Out) : ∀ (k : Nat) (w1 : Int) (w2 w3 : Nat) (w4 : List Int) (w5 : List ByteArray), lpN qf30 (qf21 fuel) qf28 qf39 k ⟨[(1, vI n), (2, .ls l), qf25, qf26, qf27, (8, vR w0), (9, vI w1)], [(qf24 z m), qf23, (2, some ⟨60, .agg [.sl 3 1 0 w2, .sl 4 1 0 w3], true⟩), (3, bL 3 w4), (4, some ⟨9, .ls w5, true⟩)], 5, none⟩ K = r5KnownF_l2 fuel n l w0 z m (fun y0 y1 y2 y3 => K (.exit 0) ⟨(qf38 n l), [(qf24 z m), qf23, (2, some ⟨60, .agg [.sl 3 1 0 y0, .sl 4 1 0 y1], true⟩), (3, bL 3 y2), (4, some ⟨9, .ls y3, true⟩)], 5, none⟩) k w1 w2 w3 w4 w5
  | 0, _, _, _, _, _ => rfl
  | k + 1, w1, w2, w3, w4, w5 => by
    unfold r5KnownF_l2
    exact (r5KnownF_s3_eq fuel k K w1 z w0 w4 w2 w5 w3 n l m).trans (congr (congr (congr (Eq.refl (r5KnownF_s3 (R := Out) w1 z w0 w4 w2 w5 w3 n l m)) (funext fun a0 => funext fun a1 => funext fun a2 => funext fun a3 => funext fun a4 => r5KnownF_l2_eq fuel n l w0 z m K k a0 a1 a2 a3 a4)) (funext fun a5 => funext fun a6 => funext fun a7 => funext fun a8 => funext fun a9 => r5KnownF_l2_eq fuel n l w0 z m K k a5 a6 a7 a8 a9)) (rfl))
noncomputable def r5KnownF_s2 {R : Type} (w0 z : Int) (w1 : List (Int × List Int)) (n : Int) (l : List ByteArray) (m : List (Int × List Int)) (c0 : Int → Nat → Nat → List Int → List ByteArray → Option R) (c1 : (List (Int × List Int)) → Int → Option R) (c2 : Option R) : Option R :=
  br (decide (w0 < z))
    (grd (nzM z w1 && decide (0 ≤ w0) && decide (w0 < z) && decide (z ≤ 64)) <|
    br (toldB z w1 w0)
      (c0 (IntKind.i64.wrap (w0 + 1)) 1 1 ([w0]) ([ByteArray.empty]))
      (c1 w1 (IntKind.i64.wrap (w0 + 1))))
    (c2)
theorem r5KnownF_s2_eq (fuel k : Nat) (K : Ex → St → Option Out) (w0 z : Int) (w1 : List (Int × List Int)) (n : Int) (l : List ByteArray) (m : List (Int × List Int)) : lpN qf30 (qf21 fuel) qf28 qf39 (k + 1) ⟨[(1, vI n), (2, .ls l), qf25, qf26, qf27, (8, vR w1), (9, vI w0)], (qf20 z m), 3, none⟩ K = r5KnownF_s2 w0 z w1 n l m (fun a0 a1 a2 a3 a4 => lpN qf30 (qf21 fuel) qf28 qf39 k ⟨[(1, vI n), (2, .ls l), qf25, qf26, qf27, (8, vR w1), (9, vI a0)], [(qf24 z m), qf23, (2, some ⟨60, .agg [.sl 3 1 0 a1, .sl 4 1 0 a2], true⟩), (3, bL 3 a3), (4, some ⟨9, .ls a4, true⟩)], 5, none⟩ K) (fun a5 a6 => lpN qf30 (qf21 fuel) qf28 qf39 k ⟨[(1, vI n), (2, .ls l), qf25, qf26, qf27, (8, vR a5), (9, vI a6)], (qf20 z m), 3, none⟩ K) (K (.exit 0) ⟨(qf38 n l), (qf20 z m), 3, none⟩) := by kernel_rfl
noncomputable def r5KnownF_l1 {R : Type} (fuel : Nat) (n : Int) (l : List ByteArray) (z : Int) (m : List (Int × List Int)) (k0 : Nat → Nat → List Int → List ByteArray → Option R) (k1 : Option R) : Nat → (List (Int × List Int)) → Int → Option R
  | 0, _, _ => none
  | k + 1, w0, w1 =>
    (r5KnownF_s2 w1 z w0 n l m (fun a0 a1 a2 a3 a4 => (r5KnownF_l2 fuel n l w0 z m (fun x0 x1 x2 x3 => k0 x0 x1 x2 x3) k a0 a1 a2 a3 a4)) (fun a5 a6 => ( r5KnownF_l1 fuel n l z m k0 k1 k a5 a6 )) (k1))
theorem r5KnownF_l1_eq (fuel : Nat) (n : Int) (l : List ByteArray) (z : Int) (m : List (Int × List Int)) (K : Ex → St → Option Out) : ∀ (k : Nat) (w0 : List (Int × List Int)) (w1 : Int), lpN qf30 (qf21 fuel) qf28 qf39 k ⟨[(1, vI n), (2, .ls l), qf25, qf26, qf27, (8, vR w0), (9, vI w1)], (qf20 z m), 3, none⟩ K = r5KnownF_l1 fuel n l z m (fun y0 y1 y2 y3 => K (.exit 0) ⟨(qf38 n l), [(qf24 z m), qf23, (2, some ⟨60, .agg [.sl 3 1 0 y0, .sl 4 1 0 y1], true⟩), (3, bL 3 y2), (4, some ⟨9, .ls y3, true⟩)], 5, none⟩) (K (.exit 0) ⟨(qf38 n l), (qf20 z m), 3, none⟩) k w0 w1
  | 0, _, _ => rfl
  | k + 1, w0, w1 => by
    unfold r5KnownF_l1
    exact (r5KnownF_s2_eq fuel k K w1 z w0 n l m).trans (congr (congr (congr (Eq.refl (r5KnownF_s2 (R := Out) w1 z w0 n l m)) (funext fun a0 => funext fun a1 => funext fun a2 => funext fun a3 => funext fun a4 => r5KnownF_l2_eq fuel n l w0 z m K k a0 a1 a2 a3 a4)) (funext fun a5 => funext fun a6 => r5KnownF_l1_eq fuel n l z m K k a5 a6)) (rfl))
noncomputable def r5KnownF_s6 {R : Type} (w0 w1 : Int) (x0 : Nat) (x1 : List Int) (x2 : Nat) (w2 : List ByteArray) (z : Int) (w3 : List (Int × List Int)) (w4 : Bool) (n : Int) (l : List ByteArray) (w5 : Int) (m : List (Int × List Int)) (c0 : (List (Int × List Int)) → Bool → Int → Int → List ByteArray → Option R) (c1 : (List (Int × List Int)) → Bool → Int → Int → Bool → List ByteArray → Option R) : Option R :=
  br (decide (w0 < w1))
    (bnd (below w0 x0) fun j0 =>
    bnd (x1[(0 + j0)]?) fun e0 =>
    bnd (below w0 x2) fun j1 =>
    bnd (w2[(0 + j1)]?) fun e1 =>
    grd (nzM (z + 8) w3 && decide (0 ≤ e0) && decide (e0 < z) && decide (z ≤ 64)) <|
    grd (Nat.ble (0 + 1) 1) <|
    grd (Nat.ble (e1.size + (txt (((([(byteS z w3 e0)])).drop 0).take 1)).size) 9223372036854775807) <|
    bnd (below w0 x2) fun j2 =>
    bnd (w2[(0 + j2)]?) fun e2 =>
    c0 w3 w4 w1 (IntKind.i64.wrap (w0 + 1)) (w2.set (0 + j2) (e1 ++ (txt (((([(byteS z w3 e0)])).drop 0).take 1)))))
    (c1 w3 w4 w1 w0 (decide (w0 < w1)) w2)
theorem r5KnownF_s6_eq (fuel k : Nat) (K : Ex → St → Option Out) (w0 w1 : Int) (x0 : Nat) (x1 : List Int) (x2 : Nat) (w2 : List ByteArray) (z : Int) (w3 : List (Int × List Int)) (w4 : Bool) (n : Int) (l : List ByteArray) (w5 : Int) (m : List (Int × List Int)) : lpN qf33 (qf21 fuel) qf28 qf29 (k + 1) ⟨[(1, vI n), (2, .ls l), qf25, qf26, qf27, (10, vI w5), (11, vR w3), (39, vI w5), (40, vI n), (41, vB w4), (44, .agg [vI z, vR m]), (45, .ls l), (46, vI w5), (47, vR w3), qf34, (49, .sl 3 1 0 x0), (50, vI w1), (51, vI w0)], [(qf24 z m), qf23, (2, some ⟨60, .agg [.sl 3 1 0 x0, .sl 4 1 0 x2], true⟩), (3, bL 3 x1), (4, some ⟨9, .ls w2, true⟩)], 5, none⟩ K = r5KnownF_s6 w0 w1 x0 x1 x2 w2 z w3 w4 n l w5 m (fun a0 a1 a2 a3 a4 => lpN qf33 (qf21 fuel) qf28 qf29 k ⟨[(1, vI n), (2, .ls l), qf25, qf26, qf27, (10, vI w5), (11, vR a0), (39, vI w5), (40, vI n), (41, vB a1), (44, .agg [vI z, vR m]), (45, .ls l), (46, vI w5), (47, vR a0), qf34, (49, .sl 3 1 0 x0), (50, vI a2), (51, vI a3)], [(qf24 z m), qf23, (2, some ⟨60, .agg [.sl 3 1 0 x0, .sl 4 1 0 x2], true⟩), (3, bL 3 x1), (4, some ⟨9, .ls a4, true⟩)], 5, none⟩ K) (fun a5 a6 a7 a8 a9 a10 => K (.exit 4) ⟨[(1, vI n), (2, .ls l), qf25, qf26, qf27, (10, vI w5), (11, vR a5), (39, vI w5), (40, vI n), (41, vB a6), (44, .agg [vI z, vR m]), (45, .ls l), (46, vI w5), (47, vR a5), qf34, (49, .sl 3 1 0 x0), (50, vI a7), (51, vI a8), (52, vB a9)], [(qf24 z m), qf23, (2, some ⟨60, .agg [.sl 3 1 0 x0, .sl 4 1 0 x2], true⟩), (3, bL 3 x1), (4, some ⟨9, .ls a10, true⟩)], 5, none⟩) := by kernel_rfl
noncomputable def r5KnownF_l4 {R : Type} (fuel : Nat) (n : Int) (l : List ByteArray) (w0 z : Int) (m : List (Int × List Int)) (x0 x1 : Nat) (x2 : List Int) (k0 : (List (Int × List Int)) → Bool → Int → Int → Bool → List ByteArray → Option R) : Nat → (List (Int × List Int)) → Bool → Int → Int → List ByteArray → Option R
  | 0, _, _, _, _, _ => none
  | k + 1, w1, w2, w3, w4, w5 =>
    (r5KnownF_s6 w4 w3 x0 x2 x1 w5 z w1 w2 n l w0 m (fun a0 a1 a2 a3 a4 => ( r5KnownF_l4 fuel n l w0 z m x0 x1 x2 k0 k a0 a1 a2 a3 a4 )) (fun a5 a6 a7 a8 a9 a10 => k0 a5 a6 a7 a8 a9 a10))
theorem r5KnownF_l4_eq (fuel : Nat) (n : Int) (l : List ByteArray) (w0 z : Int) (m : List (Int × List Int)) (x0 x1 : Nat) (x2 : List Int) (K : Ex → St → Option Out) : ∀ (k : Nat) (w1 : List (Int × List Int)) (w2 : Bool) (w3 w4 : Int) (w5 : List ByteArray), lpN qf33 (qf21 fuel) qf28 qf29 k ⟨[(1, vI n), (2, .ls l), qf25, qf26, qf27, (10, vI w0), (11, vR w1), (39, vI w0), (40, vI n), (41, vB w2), (44, .agg [vI z, vR m]), (45, .ls l), (46, vI w0), (47, vR w1), qf34, (49, .sl 3 1 0 x0), (50, vI w3), (51, vI w4)], [(qf24 z m), qf23, (2, some ⟨60, .agg [.sl 3 1 0 x0, .sl 4 1 0 x1], true⟩), (3, bL 3 x2), (4, some ⟨9, .ls w5, true⟩)], 5, none⟩ K = r5KnownF_l4 fuel n l w0 z m x0 x1 x2 (fun y0 y1 y2 y3 y4 y5 => K (.exit 4) ⟨[(1, vI n), (2, .ls l), qf25, qf26, qf27, (10, vI w0), (11, vR y0), (39, vI w0), (40, vI n), (41, vB y1), (44, .agg [vI z, vR m]), (45, .ls l), (46, vI w0), (47, vR y0), qf34, (49, .sl 3 1 0 x0), (50, vI y2), (51, vI y3), (52, vB y4)], [(qf24 z m), qf23, (2, some ⟨60, .agg [.sl 3 1 0 x0, .sl 4 1 0 x1], true⟩), (3, bL 3 x2), (4, some ⟨9, .ls y5, true⟩)], 5, none⟩) k w1 w2 w3 w4 w5
  | 0, _, _, _, _, _ => rfl
  | k + 1, w1, w2, w3, w4, w5 => by
    unfold r5KnownF_l4
    exact (r5KnownF_s6_eq fuel k K w4 w3 x0 x2 x1 w5 z w1 w2 n l w0 m).trans (congr (congr (Eq.refl (r5KnownF_s6 (R := Out) w4 w3 x0 x2 x1 w5 z w1 w2 n l w0 m)) (funext fun a0 => funext fun a1 => funext fun a2 => funext fun a3 => funext fun a4 => r5KnownF_l4_eq fuel n l w0 z m x0 x1 x2 K k a0 a1 a2 a3 a4)) (rfl))
noncomputable def r5KnownF_s7 {R : Type} (w0 : Int) (x0 : List ByteArray) (n : Int) (l : List ByteArray) (x1 : List (Int × List Int)) (x2 : Bool) (z : Int) (m : List (Int × List Int)) (x3 : Nat) (x4 x5 : Int) (x6 : Bool) (x7 : Nat) (x8 : List Int) (c0 : Int → List ByteArray → Option R) : Option R :=
  c0 (IntKind.i64.wrap (w0 + 1)) x0
theorem r5KnownF_s7_eq (fuel k : Nat) (K : Ex → St → Option Out) (w0 : Int) (x0 : List ByteArray) (n : Int) (l : List ByteArray) (x1 : List (Int × List Int)) (x2 : Bool) (z : Int) (m : List (Int × List Int)) (x3 : Nat) (x4 x5 : Int) (x6 : Bool) (x7 : Nat) (x8 : List Int) : (kont (qf21 fuel) qf22 [1, 0, 0, 1, 1, 0] qf28 (rdK qf22 (qf21 fuel) qf31 qf32 k K)) (.exit 4) ⟨[(1, vI n), (2, .ls l), qf25, qf26, qf27, (10, vI w0), (11, vR x1), (39, vI w0), (40, vI n), (41, vB x2), (44, .agg [vI z, vR m]), (45, .ls l), (46, vI w0), (47, vR x1), qf34, (49, .sl 3 1 0 x3), (50, vI x4), (51, vI x5), (52, vB x6)], [(qf24 z m), qf23, (2, some ⟨60, .agg [.sl 3 1 0 x3, .sl 4 1 0 x7], true⟩), (3, bL 3 x8), (4, some ⟨9, .ls x0, true⟩)], 5, none⟩ = r5KnownF_s7 w0 x0 n l x1 x2 z m x3 x4 x5 x6 x7 x8 (fun a0 a1 => lpN qf22 (qf21 fuel) qf31 qf32 k ⟨[(1, vI n), (2, .ls l), qf25, qf26, qf27, (10, vI a0)], [(qf24 z m), qf23, (2, some ⟨60, .agg [.sl 3 1 0 x3, .sl 4 1 0 x7], true⟩), (3, bL 3 x8), (4, some ⟨9, .ls a1, true⟩)], 5, none⟩ K) := by kernel_rfl
noncomputable def r5KnownF_s5 {R : Type} (w0 n z : Int) (m : List (Int × List Int)) (l : List ByteArray) (x0 : Nat) (w1 : List ByteArray) (x1 : Nat) (x2 : List Int) (c0 : (List (Int × List Int)) → Bool → Int → Int → List ByteArray → Option R) (c1 : List ByteArray → Option R) : Option R :=
  br (decide (w0 < n))
    (grd (rdOk z m l && decide (0 ≤ w0) && decide (w0 < 64) && l.all fun s => decide (w0 < (s.size : Int))) <|
    c0 (partM z m l w0) (decide (w0 < n)) ((x0 : Nat) : Int) 0 w1)
    (c1 w1)
theorem r5KnownF_s5_eq (fuel k : Nat) (K : Ex → St → Option Out) (w0 n z : Int) (m : List (Int × List Int)) (l : List ByteArray) (x0 : Nat) (w1 : List ByteArray) (x1 : Nat) (x2 : List Int) : lpN qf22 (qf21 fuel) qf31 qf32 (k + 1) ⟨[(1, vI n), (2, .ls l), qf25, qf26, qf27, (10, vI w0)], [(qf24 z m), qf23, (2, some ⟨60, .agg [.sl 3 1 0 x0, .sl 4 1 0 x1], true⟩), (3, bL 3 x2), (4, some ⟨9, .ls w1, true⟩)], 5, none⟩ K = r5KnownF_s5 w0 n z m l x0 w1 x1 x2 (fun a0 a1 a2 a3 a4 => lpN qf33 (qf21 fuel) qf28 qf29 fuel ⟨[(1, vI n), (2, .ls l), qf25, qf26, qf27, (10, vI w0), (11, vR a0), (39, vI w0), (40, vI n), (41, vB a1), (44, .agg [vI z, vR m]), (45, .ls l), (46, vI w0), (47, vR a0), qf34, (49, .sl 3 1 0 x0), (50, vI a2), (51, vI a3)], [(qf24 z m), qf23, (2, some ⟨60, .agg [.sl 3 1 0 x0, .sl 4 1 0 x1], true⟩), (3, bL 3 x2), (4, some ⟨9, .ls a4, true⟩)], 5, none⟩ (kont (qf21 fuel) qf22 [1, 0, 0, 1, 1, 0] qf28 (rdK qf22 (qf21 fuel) qf31 qf32 k K))) (fun a5 => K (.exit 2) ⟨qf36, [qf35, (1, some ⟨60, .agg [.sl 2 1 0 x0, .sl 3 1 0 x1], true⟩), (2, bL 3 x2), (3, some ⟨9, .ls a5, true⟩)], 4, none⟩) := by kernel_rfl
noncomputable def r5KnownF_l3 {R : Type} (fuel : Nat) (n : Int) (l : List ByteArray) (z : Int) (m : List (Int × List Int)) (x0 x1 : Nat) (x2 : List Int) (k0 : List ByteArray → Option R) : Nat → Int → List ByteArray → Option R
  | 0, _, _ => none
  | k + 1, w0, w1 =>
    (r5KnownF_s5 w0 n z m l x0 w1 x1 x2 (fun a0 a1 a2 a3 a4 => (r5KnownF_l4 fuel n l w0 z m x0 x1 x2 (fun x3 x4 x5 x6 x7 x8 => (r5KnownF_s7 w0 x8 n l x3 x4 z m x0 x5 x6 x7 x1 x2 (fun a5 a6 => ( r5KnownF_l3 fuel n l z m x0 x1 x2 k0 k a5 a6 )))) fuel a0 a1 a2 a3 a4)) (fun a7 => k0 a7))
theorem r5KnownF_l3_eq (fuel : Nat) (n : Int) (l : List ByteArray) (z : Int) (m : List (Int × List Int)) (x0 x1 : Nat) (x2 : List Int) (K : Ex → St → Option Out) : ∀ (k : Nat) (w0 : Int) (w1 : List ByteArray), lpN qf22 (qf21 fuel) qf31 qf32 k ⟨[(1, vI n), (2, .ls l), qf25, qf26, qf27, (10, vI w0)], [(qf24 z m), qf23, (2, some ⟨60, .agg [.sl 3 1 0 x0, .sl 4 1 0 x1], true⟩), (3, bL 3 x2), (4, some ⟨9, .ls w1, true⟩)], 5, none⟩ K = r5KnownF_l3 fuel n l z m x0 x1 x2 (fun y0 => K (.exit 2) ⟨qf36, [qf35, (1, some ⟨60, .agg [.sl 2 1 0 x0, .sl 3 1 0 x1], true⟩), (2, bL 3 x2), (3, some ⟨9, .ls y0, true⟩)], 4, none⟩) k w0 w1
  | 0, _, _ => rfl
  | k + 1, w0, w1 => by
    unfold r5KnownF_l3
    exact (r5KnownF_s5_eq fuel k K w0 n z m l x0 w1 x1 x2).trans (congr (congr (Eq.refl (r5KnownF_s5 (R := Out) w0 n z m l x0 w1 x1 x2)) (funext fun a0 => funext fun a1 => funext fun a2 => funext fun a3 => funext fun a4 => (r5KnownF_l4_eq fuel n l w0 z m x0 x1 x2 (kont (qf21 fuel) qf22 [1, 0, 0, 1, 1, 0] qf28 (rdK qf22 (qf21 fuel) qf31 qf32 k K)) fuel a0 a1 a2 a3 a4).trans (congrFun (congrFun (congrFun (congrFun (congrFun (congrFun (congr (Eq.refl (r5KnownF_l4 (R := Out) fuel n l w0 z m x0 x1 x2)) (funext fun x3 => funext fun x4 => funext fun x5 => funext fun x6 => funext fun x7 => funext fun x8 => (r5KnownF_s7_eq fuel k K w0 x8 n l x3 x4 z m x0 x5 x6 x7 x1 x2).trans (congr (Eq.refl (r5KnownF_s7 (R := Out) w0 x8 n l x3 x4 z m x0 x5 x6 x7 x1 x2)) (funext fun a5 => funext fun a6 => r5KnownF_l3_eq fuel n l z m x0 x1 x2 K k a5 a6)))) fuel) a0) a1) a2) a3) a4))) (rfl))
noncomputable def r5KnownF_s8 {R : Type} (x0 : List Int) (x1 : Nat) (x2 : List ByteArray) (x3 : Nat) (c0 : List Int → List ByteArray → Option R) : Option R :=
  c0 ((x0.drop 0).take x1) ((x2.drop 0).take x3)
theorem r5KnownF_s8_eq (fuel : Nat)  (x0 : List Int) (x1 : Nat) (x2 : List ByteArray) (x3 : Nat) : (kont (qf21 fuel) qf37 [1, 1, 1, 1, 0, 1, 0] 64 (endK Tryd.prog 0 0 35)) (.exit 2) ⟨qf36, [qf35, (1, some ⟨60, .agg [.sl 2 1 0 x1, .sl 3 1 0 x3], true⟩), (2, bL 3 x0), (3, some ⟨9, .ls x2, true⟩)], 4, none⟩ = r5KnownF_s8 x0 x1 x2 x3 (fun a0 a1 => some (.agg [vL a0, .ls a1], [])) := by kernel_rfl
noncomputable def r5KnownF_s4 {R : Type} (x0 : List ByteArray) (n : Int) (l : List ByteArray) (z : Int) (m : List (Int × List Int)) (x1 x2 : Nat) (x3 : List Int) (c0 : Int → List ByteArray → Option R) : Option R :=
  c0 0 x0
theorem r5KnownF_s4_eq (fuel : Nat)  (x0 : List ByteArray) (n : Int) (l : List ByteArray) (z : Int) (m : List (Int × List Int)) (x1 x2 : Nat) (x3 : List Int) : (kont (qf21 fuel) qf37 [1, 1, 1, 0, 1, 0] 64 (endK Tryd.prog 0 0 35)) (.exit 0) ⟨(qf38 n l), [(qf24 z m), qf23, (2, some ⟨60, .agg [.sl 3 1 0 x1, .sl 4 1 0 x2], true⟩), (3, bL 3 x3), (4, some ⟨9, .ls x0, true⟩)], 5, none⟩ = r5KnownF_s4 x0 n l z m x1 x2 x3 (fun a0 a1 => lpN qf22 (qf21 fuel) qf31 qf32 fuel ⟨[(1, vI n), (2, .ls l), qf25, qf26, qf27, (10, vI a0)], [(qf24 z m), qf23, (2, some ⟨60, .agg [.sl 3 1 0 x1, .sl 4 1 0 x2], true⟩), (3, bL 3 x3), (4, some ⟨9, .ls a1, true⟩)], 5, none⟩ (kont (qf21 fuel) qf37 [1, 1, 1, 1, 0, 1, 0] 64 (endK Tryd.prog 0 0 35))) := by kernel_rfl
noncomputable def r5KnownF_s11 {R : Type} (w0 : List (Int × List Int)) (w1 : Bool) (n : Int) (l : List ByteArray) (w2 z : Int) (m : List (Int × List Int)) (c0 : (List (Int × List Int)) → Bool → Option R) : Option R :=
  c0 w0 w1
theorem r5KnownF_s11_eq (fuel k : Nat) (K : Ex → St → Option Out) (w0 : List (Int × List Int)) (w1 : Bool) (n : Int) (l : List ByteArray) (w2 z : Int) (m : List (Int × List Int)) : lpN qf33 (qf21 fuel) qf28 qf29 (k + 1) ⟨[(1, vI n), (2, .ls l), qf25, qf26, qf27, (10, vI w2), (11, vR w0), (39, vI w2), (40, vI n), (41, vB w1), (44, .agg [vI z, vR m]), (45, .ls l), (46, vI w2), (47, vR w0), qf34, (49, vN), (50, vI 0), (51, vI 0)], (qf20 z m), 3, none⟩ K = r5KnownF_s11 w0 w1 n l w2 z m (fun a0 a1 => K (.exit 4) ⟨[(1, vI n), (2, .ls l), qf25, qf26, qf27, (10, vI w2), (11, vR a0), (39, vI w2), (40, vI n), (41, vB a1), (44, .agg [vI z, vR m]), (45, .ls l), (46, vI w2), (47, vR a0), qf34, (49, vN), (50, vI 0), (51, vI 0), (52, vB false)], (qf20 z m), 3, none⟩) := by kernel_rfl
noncomputable def r5KnownF_l6 {R : Type} (fuel : Nat) (n : Int) (l : List ByteArray) (w0 z : Int) (m : List (Int × List Int)) (k0 : (List (Int × List Int)) → Bool → Option R) : Nat → (List (Int × List Int)) → Bool → Option R
  | 0, _, _ => none
  | k + 1, w1, w2 =>
    (r5KnownF_s11 w1 w2 n l w0 z m (fun a0 a1 => k0 a0 a1))
theorem r5KnownF_l6_eq (fuel : Nat) (n : Int) (l : List ByteArray) (w0 z : Int) (m : List (Int × List Int)) (K : Ex → St → Option Out) : ∀ (k : Nat) (w1 : List (Int × List Int)) (w2 : Bool), lpN qf33 (qf21 fuel) qf28 qf29 k ⟨[(1, vI n), (2, .ls l), qf25, qf26, qf27, (10, vI w0), (11, vR w1), (39, vI w0), (40, vI n), (41, vB w2), (44, .agg [vI z, vR m]), (45, .ls l), (46, vI w0), (47, vR w1), qf34, (49, vN), (50, vI 0), (51, vI 0)], (qf20 z m), 3, none⟩ K = r5KnownF_l6 fuel n l w0 z m (fun y0 y1 => K (.exit 4) ⟨[(1, vI n), (2, .ls l), qf25, qf26, qf27, (10, vI w0), (11, vR y0), (39, vI w0), (40, vI n), (41, vB y1), (44, .agg [vI z, vR m]), (45, .ls l), (46, vI w0), (47, vR y0), qf34, (49, vN), (50, vI 0), (51, vI 0), (52, vB false)], (qf20 z m), 3, none⟩) k w1 w2
  | 0, _, _ => rfl
  | k + 1, w1, w2 => by
    unfold r5KnownF_l6
    exact (r5KnownF_s11_eq fuel k K w1 w2 n l w0 z m)
noncomputable def r5KnownF_s12 {R : Type} (w0 n : Int) (l : List ByteArray) (x0 : List (Int × List Int)) (x1 : Bool) (z : Int) (m : List (Int × List Int)) (c0 : Int → Option R) : Option R :=
  c0 (IntKind.i64.wrap (w0 + 1))
theorem r5KnownF_s12_eq (fuel k : Nat) (K : Ex → St → Option Out) (w0 n : Int) (l : List ByteArray) (x0 : List (Int × List Int)) (x1 : Bool) (z : Int) (m : List (Int × List Int)) : (kont (qf21 fuel) qf22 [1, 0, 0, 1, 1, 0] qf28 (rdK qf22 (qf21 fuel) qf31 qf32 k K)) (.exit 4) ⟨[(1, vI n), (2, .ls l), qf25, qf26, qf27, (10, vI w0), (11, vR x0), (39, vI w0), (40, vI n), (41, vB x1), (44, .agg [vI z, vR m]), (45, .ls l), (46, vI w0), (47, vR x0), qf34, (49, vN), (50, vI 0), (51, vI 0), (52, vB false)], (qf20 z m), 3, none⟩ = r5KnownF_s12 w0 n l x0 x1 z m (fun a0 => lpN qf22 (qf21 fuel) qf31 qf32 k ⟨[(1, vI n), (2, .ls l), qf25, qf26, qf27, (10, vI a0)], (qf20 z m), 3, none⟩ K) := by kernel_rfl
noncomputable def r5KnownF_s10 {R : Type} (w0 n z : Int) (m : List (Int × List Int)) (l : List ByteArray) (c0 : (List (Int × List Int)) → Bool → Option R) (c1 : Option R) : Option R :=
  br (decide (w0 < n))
    (grd (rdOk z m l && decide (0 ≤ w0) && decide (w0 < 64) && l.all fun s => decide (w0 < (s.size : Int))) <|
    c0 (partM z m l w0) (decide (w0 < n)))
    (c1)
theorem r5KnownF_s10_eq (fuel k : Nat) (K : Ex → St → Option Out) (w0 n z : Int) (m : List (Int × List Int)) (l : List ByteArray) : lpN qf22 (qf21 fuel) qf31 qf32 (k + 1) ⟨[(1, vI n), (2, .ls l), qf25, qf26, qf27, (10, vI w0)], (qf20 z m), 3, none⟩ K = r5KnownF_s10 w0 n z m l (fun a0 a1 => lpN qf33 (qf21 fuel) qf28 qf29 fuel ⟨[(1, vI n), (2, .ls l), qf25, qf26, qf27, (10, vI w0), (11, vR a0), (39, vI w0), (40, vI n), (41, vB a1), (44, .agg [vI z, vR m]), (45, .ls l), (46, vI w0), (47, vR a0), qf34, (49, vN), (50, vI 0), (51, vI 0)], (qf20 z m), 3, none⟩ (kont (qf21 fuel) qf22 [1, 0, 0, 1, 1, 0] qf28 (rdK qf22 (qf21 fuel) qf31 qf32 k K))) (K (.exit 2) ⟨qf36, [qf35, qf23], 2, none⟩) := by kernel_rfl
noncomputable def r5KnownF_l5 {R : Type} (fuel : Nat) (n : Int) (l : List ByteArray) (z : Int) (m : List (Int × List Int)) (k0 : Option R) : Nat → Int → Option R
  | 0, _ => none
  | k + 1, w0 =>
    (r5KnownF_s10 w0 n z m l (fun a0 a1 => (r5KnownF_l6 fuel n l w0 z m (fun x0 x1 => (r5KnownF_s12 w0 n l x0 x1 z m (fun a2 => ( r5KnownF_l5 fuel n l z m k0 k a2 )))) fuel a0 a1)) (k0))
theorem r5KnownF_l5_eq (fuel : Nat) (n : Int) (l : List ByteArray) (z : Int) (m : List (Int × List Int)) (K : Ex → St → Option Out) : ∀ (k : Nat) (w0 : Int), lpN qf22 (qf21 fuel) qf31 qf32 k ⟨[(1, vI n), (2, .ls l), qf25, qf26, qf27, (10, vI w0)], (qf20 z m), 3, none⟩ K = r5KnownF_l5 fuel n l z m (K (.exit 2) ⟨qf36, [qf35, qf23], 2, none⟩) k w0
  | 0, _ => rfl
  | k + 1, w0 => by
    unfold r5KnownF_l5
    exact (r5KnownF_s10_eq fuel k K w0 n z m l).trans (congr (congr (Eq.refl (r5KnownF_s10 (R := Out) w0 n z m l)) (funext fun a0 => funext fun a1 => (r5KnownF_l6_eq fuel n l w0 z m (kont (qf21 fuel) qf22 [1, 0, 0, 1, 1, 0] qf28 (rdK qf22 (qf21 fuel) qf31 qf32 k K)) fuel a0 a1).trans (congrFun (congrFun (congrFun (congr (Eq.refl (r5KnownF_l6 (R := Out) fuel n l w0 z m)) (funext fun x0 => funext fun x1 => (r5KnownF_s12_eq fuel k K w0 n l x0 x1 z m).trans (congr (Eq.refl (r5KnownF_s12 (R := Out) w0 n l x0 x1 z m)) (funext fun a2 => r5KnownF_l5_eq fuel n l z m K k a2)))) fuel) a0) a1))) (rfl))
noncomputable def r5KnownF_s13 {R : Type}  (c0 : Option R) : Option R :=
  c0
theorem r5KnownF_s13_eq (fuel : Nat)   : (kont (qf21 fuel) qf37 [1, 1, 1, 1, 0, 1, 0] 64 (endK Tryd.prog 0 0 35)) (.exit 2) ⟨qf36, [qf35, qf23], 2, none⟩ = r5KnownF_s13  (some (.agg [vN, vN], [])) := by kernel_rfl
noncomputable def r5KnownF_s9 {R : Type} (n : Int) (l : List ByteArray) (z : Int) (m : List (Int × List Int)) (c0 : Int → Option R) : Option R :=
  c0 0
theorem r5KnownF_s9_eq (fuel : Nat)  (n : Int) (l : List ByteArray) (z : Int) (m : List (Int × List Int)) : (kont (qf21 fuel) qf37 [1, 1, 1, 0, 1, 0] 64 (endK Tryd.prog 0 0 35)) (.exit 0) ⟨(qf38 n l), (qf20 z m), 3, none⟩ = r5KnownF_s9 n l z m (fun a0 => lpN qf22 (qf21 fuel) qf31 qf32 fuel ⟨[(1, vI n), (2, .ls l), qf25, qf26, qf27, (10, vI a0)], (qf20 z m), 3, none⟩ (kont (qf21 fuel) qf37 [1, 1, 1, 1, 0, 1, 0] 64 (endK Tryd.prog 0 0 35))) := by kernel_rfl
noncomputable def r5KnownF_s1 {R : Type} (z : Int) (m : List (Int × List Int)) (n : Int) (l : List ByteArray) (c0 : (List (Int × List Int)) → Int → Option R) : Option R :=
  grd (rtM z m) <|
  c0 (echR z m) 0
theorem r5KnownF_s1_eq (fuel : Nat)  (z : Int) (m : List (Int × List Int)) (n : Int) (l : List ByteArray) : callN Tryd.prog mode24 T_r5byte fuel 35 [.agg [vI z, vR m], vI n, .ls l] [] = r5KnownF_s1 z m n l (fun a0 a1 => lpN qf30 (qf21 fuel) qf28 qf39 fuel ⟨[(1, vI n), (2, .ls l), qf25, qf26, qf27, (8, vR a0), (9, vI a1)], (qf20 z m), 3, none⟩ (kont (qf21 fuel) qf37 [1, 1, 1, 0, 1, 0] 64 (endK Tryd.prog 0 0 35))) := by kernel_rfl
noncomputable def r5KnownF {R : Type} (fuel : Nat) (z : Int) (m : List (Int × List Int)) (n : Int) (l : List ByteArray) (r0 : List Int → List ByteArray → Option R) (r1 : Option R) : Option R :=
  (r5KnownF_s1 z m n l (fun a0 a1 => (r5KnownF_l1 fuel n l z m (fun x0 x1 x2 x3 => (r5KnownF_s4 x3 n l z m x0 x1 x2 (fun a2 a3 => (r5KnownF_l3 fuel n l z m x0 x1 x2 (fun x4 => (r5KnownF_s8 x2 x0 x4 x1 (fun a4 a5 => r0 a4 a5))) fuel a2 a3)))) ((r5KnownF_s9 n l z m (fun a6 => (r5KnownF_l5 fuel n l z m ((r5KnownF_s13 (r1))) fuel a6)))) fuel a0 a1)))
theorem r5KnownF_eq (fuel : Nat) (z : Int) (m : List (Int × List Int)) (n : Int) (l : List ByteArray) : callN Tryd.prog mode24 T_r5byte fuel 35 [.agg [.s (.int .i64 z), .lt (.pair (.int .i64) (.sl (.int .u64))) m], .s (.int .i64 n), .ls l] [] = r5KnownF fuel z m n l (fun z0 z1 => some (.agg [.li .i64 z0, .ls z1], [])) (some (.agg [.s (.slice none 0 0), .s (.slice none 0 0)], [])) := by
  unfold r5KnownF
  exact (r5KnownF_s1_eq fuel  z m n l).trans (congr (Eq.refl (r5KnownF_s1 (R := Out) z m n l)) (funext fun a0 => funext fun a1 => (r5KnownF_l1_eq fuel n l z m (kont (qf21 fuel) qf37 [1, 1, 1, 0, 1, 0] 64 (endK Tryd.prog 0 0 35)) fuel a0 a1).trans (congrFun (congrFun (congrFun (congr (congr (Eq.refl (r5KnownF_l1 (R := Out) fuel n l z m)) (funext fun x0 => funext fun x1 => funext fun x2 => funext fun x3 => (r5KnownF_s4_eq fuel  x3 n l z m x0 x1 x2).trans (congr (Eq.refl (r5KnownF_s4 (R := Out) x3 n l z m x0 x1 x2)) (funext fun a2 => funext fun a3 => (r5KnownF_l3_eq fuel n l z m x0 x1 x2 (kont (qf21 fuel) qf37 [1, 1, 1, 1, 0, 1, 0] 64 (endK Tryd.prog 0 0 35)) fuel a2 a3).trans (congrFun (congrFun (congrFun (congr (Eq.refl (r5KnownF_l3 (R := Out) fuel n l z m x0 x1 x2)) (funext fun x4 => (r5KnownF_s8_eq fuel  x2 x0 x4 x1))) fuel) a2) a3))))) ((r5KnownF_s9_eq fuel  n l z m).trans (congr (Eq.refl (r5KnownF_s9 (R := Out) n l z m)) (funext fun a4 => (r5KnownF_l5_eq fuel n l z m (kont (qf21 fuel) qf37 [1, 1, 1, 1, 0, 1, 0] 64 (endK Tryd.prog 0 0 35)) fuel a4).trans (congrFun (congrFun (congr (Eq.refl (r5KnownF_l5 (R := Out) fuel n l z m)) ((r5KnownF_s13_eq fuel  ))) fuel) a4))))) fuel) a0) a1)))
theorem r5Known_first {R : Type} (fuel : Nat) (n : Int) (l : List ByteArray) (r : List Rw) (z : Nat) (hz : z ≤ 64) (hr : nzM (z : Int) r = true) (m : List Rw) (k0 : Nat → Nat → List Int → List ByteArray → Option R) : ∀ (d k i : Nat) (A : List Int) (B : List ByteArray), i + d = z → d < k → A.length ≤ i → B.length = A.length →
    r5KnownF_l2 fuel n l r (z : Int) m k0 k (i : Int) A.length B.length A B = k0 (A ++ tdF (toldB (z : Int) r) d i).length (B ++ (tdF (toldB (z : Int) r) d i).map fun _ => ByteArray.empty).length (A ++ tdF (toldB (z : Int) r) d i) (B ++ (tdF (toldB (z : Int) r) d i).map fun _ => ByteArray.empty)
  | 0, 0, i, A, B, h1, h2, _, _ => by omega
  | 0, k + 1, i, A, B, h1, h2, _, _ => by
    unfold r5KnownF_l2 r5KnownF_s3
    rw [br_if, if_neg (by simp; omega), tdF, List.map_nil, List.append_nil, List.append_nil]
  | d + 1, 0, i, A, B, h1, h2, _, _ => by omega
  | d + 1, k + 1, i, A, B, h1, h2, h3, h4 => by
    unfold r5KnownF_l2 r5KnownF_s3
    rw [br_if, if_pos (by simp; omega), grd_of (by rw [hr]; simp; omega), br_if, tdF, wrap_i64 (by omega) (by omega), show (i : Int) + 1 = ((i + 1 : Nat) : Int) by omega]
    by_cases h : toldB (z : Int) r (i : Int) = true
    · rw [if_pos h, if_pos h, grd_of (beq_self _), grd_of (okN_of (by omega) (by omega)), grd_of (beq_self _), grd_of (okN_of (by omega) (by omega))]
      have := r5Known_first fuel n l r z hz hr m k0 d k (i + 1) (A ++ [(i : Int)]) (B ++ [ByteArray.empty]) (by omega) (by omega) (by simp; omega) (by simp; omega)
      rw [List.append_assoc, List.append_assoc] at this
      exact this
    · rw [if_neg h, if_neg h]
      exact r5Known_first fuel n l r z hz hr m k0 d k (i + 1) A B (by omega) (by omega) (by omega) h4
theorem r5Known_told {R : Type} (fuel : Nat) (n : Int) (l : List ByteArray) (r : List Rw) (z : Nat) (hz : z ≤ 64) (hr : nzM (z : Int) r = true) (m : List Rw) (k0 : Nat → Nat → List Int → List ByteArray → Option R) (k1 : Option R) : ∀ (d k i : Nat), i + d = z → d < k →
    r5KnownF_l1 fuel n l (z : Int) m k0 k1 k r (i : Int) = if tdF (toldB (z : Int) r) d i = [] then k1 else k0 (tdF (toldB (z : Int) r) d i).length ((tdF (toldB (z : Int) r) d i).map fun _ => ByteArray.empty).length (tdF (toldB (z : Int) r) d i) ((tdF (toldB (z : Int) r) d i).map fun _ => ByteArray.empty)
  | 0, 0, i, h1, h2 => by omega
  | 0, k + 1, i, h1, h2 => by
    unfold r5KnownF_l1 r5KnownF_s2
    rw [br_if, if_neg (by simp; omega), tdF, if_pos rfl]
  | d + 1, 0, i, h1, h2 => by omega
  | d + 1, k + 1, i, h1, h2 => by
    unfold r5KnownF_l1 r5KnownF_s2
    rw [br_if, if_pos (by simp; omega), grd_of (by rw [hr]; simp; omega), br_if, tdF, wrap_i64 (by omega) (by omega), show (i : Int) + 1 = ((i + 1 : Nat) : Int) by omega]
    by_cases h : toldB (z : Int) r (i : Int) = true
    · rw [if_pos h, if_pos h, if_neg (by simp)]
      have := r5Known_first (R := R) fuel n l r z hz hr m k0 d k (i + 1) [(i : Int)] [ByteArray.empty] (by omega) (by omega) (by simp) rfl
      exact this
    · rw [if_neg h, if_neg h]
      exact r5Known_told fuel n l r z hz hr m k0 k1 d k (i + 1) (by omega) (by omega)
noncomputable def kT (N q : Nat) (x : Nat × Nat) : ByteArray := txt (byts q (hi N x.2))
theorem r5Known_in {R : Type} (fuel : Nat) (n : Int) (l : List ByteArray) (z : Int) (h1 : z ≤ 64) (m : List Rw) (hrd : rdOk z m l = true) (hF : Fit z.toNat (augs z m l)) (q : Nat) (hq : q < 64) (w : Bool) (K : List (Nat × Nat)) (hK : ∀ x, x ∈ K → x ∈ kR z m l) (hKl : K.length ≤ 64) (k0 : List Rw → Bool → Int → Int → Bool → List ByteArray → Option R) : ∀ (d k j : Nat), j + d = K.length → d < k →
    r5KnownF_l4 fuel n l (q : Int) z m K.length K.length (K.map fun x => (x.1 : Int)) k0 k (partM z m l (q : Int)) w (K.length : Int) (j : Int) ((K.take j).map (kT z.toNat (q + 1)) ++ (K.drop j).map (kT z.toNat q)) = k0 (partM z m l (q : Int)) w (K.length : Int) (K.length : Int) (decide ((K.length : Int) < (K.length : Int))) (K.map (kT z.toNat (q + 1)))
  | 0, 0, j, a, b => by omega
  | 0, k + 1, j, a, b => by
    obtain rfl : j = K.length := by omega
    unfold r5KnownF_l4 r5KnownF_s6
    rw [br_if, if_neg (by simp), List.take_length, List.drop_length, List.map_nil, List.append_nil]
  | d + 1, 0, j, a, b => by omega
  | d + 1, k + 1, j, a, b => by
    have hj : j < K.length := by omega
    obtain ⟨b1, b2, b3⟩ := part_byte hrd hF q (hK _ (List.getElem_mem hj))
    have eb : below (j : Int) K.length = some j := by rw [below_of (by omega) (by omega)]; rfl
    have ek : (K.map fun x => (x.1 : Int))[0 + j]? = some (((K[j]).1 : Nat) : Int) := by
      rw [Nat.zero_add, List.getElem?_map, List.getElem?_eq_getElem hj]; rfl
    have et := mix2_get (kT z.toNat (q + 1)) (kT z.toNat q) hj
    have hlt : lo 8 (hi (8 * q) (hi z.toNat (K[j]).2)) < 256 := lo_lt 8 _
    have es : kT z.toNat q K[j] ++ txt [((lo 8 (hi (8 * q) (hi z.toNat (K[j]).2)) : Nat) : Int)] = kT z.toNat (q + 1) K[j] := by
      unfold kT
      rw [txt_snoc (byts_ok _ _) (by omega), byts_succ]
    have h1t : (txt (((([(byteS z (partM z m l (q : Int)) (((K[j]).1 : Nat) : Int))])).drop 0).take 1)) = txt [((lo 8 (hi (8 * q) (hi z.toNat (K[j]).2)) : Nat) : Int)] := by rw [b3]; rfl
    have hsz : ((kT z.toNat q K[j]).size : Int) = (q : Int) := by unfold kT; rw [txt_size, byts_len]
    unfold r5KnownF_l4 r5KnownF_s6
    rw [br_if, if_pos (by simp; omega), bnd_of eb, bnd_of ek, bnd_of eb, bnd_of et, grd_of (by rw [b1]; simp; omega), grd_of (show Nat.ble (0 + 1) 1 = true from rfl), h1t, grd_of (Nat.ble_eq_true_of_le (by rw [txt_size, List.length_singleton]; omega)), bnd_of eb, bnd_of et, es, mix2_set (kT z.toNat (q + 1)) (kT z.toNat q) hj, wrap_i64 (by omega) (by omega), show (j : Int) + 1 = ((j + 1 : Nat) : Int) by omega]
    exact r5Known_in fuel n l z h1 m hrd hF q hq w K hK hKl k0 d k (j + 1) (by omega) (by omega)
theorem r5Known_out {R : Type} (fuel : Nat) (hf : 80 < fuel) (n : Nat) (hn : n ≤ 64) (l : List ByteArray) (hs : ∀ s, s ∈ l → s.size = n) (z : Int) (h1 : z ≤ 64) (m : List Rw) (hrd : rdOk z m l = true) (hF : Fit z.toNat (augs z m l)) (K : List (Nat × Nat)) (hK : ∀ x, x ∈ K → x ∈ kR z m l) (hKl : K.length ≤ 64) (k0 : List ByteArray → Option R) : ∀ (d k q : Nat), q + d = n → d < k →
    r5KnownF_l3 fuel (n : Int) l z m K.length K.length (K.map fun x => (x.1 : Int)) k0 k (q : Int) (K.map (kT z.toNat q)) = k0 (K.map (kT z.toNat n))
  | 0, 0, q, a, b => by omega
  | 0, k + 1, q, a, b => by
    obtain rfl : q = n := by omega
    unfold r5KnownF_l3 r5KnownF_s5
    rw [br_if, if_neg (by simp)]
  | d + 1, 0, q, a, b => by omega
  | d + 1, k + 1, q, a, b => by
    unfold r5KnownF_l3 r5KnownF_s5
    rw [br_if, if_pos (by simp; omega), grd_of (by
      simp only [Bool.and_eq_true, decide_eq_true_eq, List.all_eq_true]
      exact ⟨⟨⟨hrd, by omega⟩, by omega⟩, fun s h => by rw [hs s h]; omega⟩)]
    have h := fun k0 => r5Known_in (R := R) fuel (n : Int) l z h1 m hrd hF q (by omega) (decide ((q : Int) < (n : Int))) K hK hKl k0 K.length fuel 0 (by omega) (by omega)
    rw [List.take_zero, List.map_nil, List.nil_append, List.drop_zero, show ((0 : Nat) : Int) = 0 from rfl] at h
    refine (h _).trans ?_
    unfold r5KnownF_s7
    rw [wrap_i64 (by omega) (by omega), show (q : Int) + 1 = ((q + 1 : Nat) : Int) by omega]
    exact r5Known_out fuel hf n hn l hs z h1 m hrd hF K hK hKl k0 d k (q + 1) (by omega) (by omega)
theorem r5Known_none {R : Type} (fuel : Nat) (hf : 80 < fuel) (n : Nat) (hn : n ≤ 64) (l : List ByteArray) (hs : ∀ s, s ∈ l → s.size = n) (z : Int) (m : List Rw) (hrd : rdOk z m l = true) (k0 : Option R) : ∀ (d k q : Nat), q + d = n → d < k → r5KnownF_l5 fuel (n : Int) l z m k0 k (q : Int) = k0
  | 0, 0, q, a, b => by omega
  | 0, k + 1, q, a, b => by
    unfold r5KnownF_l5 r5KnownF_s10
    rw [br_if, if_neg (by simp; omega)]
  | d + 1, 0, q, a, b => by omega
  | d + 1, k + 1, q, a, b => by
    cases fuel with
    | zero => omega
    | succ fuel =>
      unfold r5KnownF_l5 r5KnownF_s10
      rw [br_if, if_pos (by simp; omega), grd_of (by
        simp only [Bool.and_eq_true, decide_eq_true_eq, List.all_eq_true]
        exact ⟨⟨⟨hrd, by omega⟩, by omega⟩, fun s h => by rw [hs s h]; omega⟩)]
      unfold r5KnownF_l6 r5KnownF_s11 r5KnownF_s12
      rw [wrap_i64 (by omega) (by omega), show (q : Int) + 1 = ((q + 1 : Nat) : Int) by omega]
      exact r5Known_none (fuel + 1) hf n hn l hs z m hrd k0 d k (q + 1) (by omega) (by omega)
theorem r5Known_fact (z : Int) (m : List (Int × List Int)) (n : Int) (l : List ByteArray) (hg : (rdOk z m l && fitB z m l && bok n l) = true) : Fact Tryd.prog noG 35 [.agg [.s (.int .i64 z), .lt (.pair (.int .i64) (.sl (.int .u64))) m], .s (.int .i64 n), .ls l] [] (.agg [.li .i64 (kA z m l), .ls (kL z m n l)], []) := by
  simp only [Bool.and_eq_true] at hg
  obtain ⟨⟨hrd, hfit⟩, hb⟩ := hg
  have hF := fit_iff.1 hfit
  obtain ⟨hok, hm, hl, _⟩ := rdOk_iff.1 hrd
  obtain ⟨⟨z0, z1⟩, hx, hrows⟩ := mrt_iff.1 hm
  obtain ⟨⟨b0, b1⟩, b2, b3⟩ := bok_iff.1 hb
  obtain ⟨n, rfl⟩ : ∃ k : Nat, n = (k : Int) := ⟨n.toNat, by omega⟩
  obtain ⟨y, rfl⟩ : ∃ k : Nat, z = (k : Int) := ⟨z.toNat, by omega⟩
  have hs : ∀ s, s ∈ l → s.size = n := fun s h => by have := b3 s h; omega
  obtain ⟨t1, t2, _, _⟩ := ech_told hrd hF
  have ht := told_list hrd hF
  rw [Int.toNat_natCast] at ht
  have hkA : kA (y : Int) m l = (kR (y : Int) m l).map fun x => (x.1 : Int) := by rw [kA_eq]; rfl
  have hkL : kL (y : Int) m (n : Int) l = (kR (y : Int) m l).map (kT (y : Int).toNat n) := by rw [kL_eq]; unfold kLI kT; rw [Int.toNat_natCast]
  have hlen : (kR (y : Int) m l).length ≤ 64 := by
    have := tdF_len (toldB (y : Int) (echR (y : Int) m)) y 0
    rw [ht, hkA, List.length_map] at this
    omega
  have hwalk : callN Tryd.prog mode24 T_r5byte 100 35 [.agg [.s (.int .i64 (y : Int)), .lt (.pair (.int .i64) (.sl (.int .u64))) m], .s (.int .i64 (n : Int)), .ls l] [] = if kA (y : Int) m l = [] then some (.agg [.s (.slice none 0 0), .s (.slice none 0 0)], []) else some (.agg [.li .i64 (kA (y : Int) m l), .ls (kL (y : Int) m (n : Int) l)], []) := by
   rw [r5KnownF_eq]
   unfold r5KnownF r5KnownF_s1
   rw [grd_of t2]
   have h1 := fun k0 k1 => r5Known_told (R := Out) 100 (n : Int) l (echR (y : Int) m) y (by omega) t1 m k0 k1 y 100 0 (by omega) (by omega)
   rw [show ((0 : Nat) : Int) = 0 from rfl, ht] at h1
   dsimp only
   rw [h1]
   by_cases he : kA (y : Int) m l = []
   · have h5 := fun k0 => r5Known_none (R := Out) 100 (by decide) n (by omega) l hs (y : Int) m hrd k0 n 100 0 (by omega) (by omega)
     rw [if_pos he]
     unfold r5KnownF_s9
     refine (h5 _).trans ?_
     unfold r5KnownF_s13
     rw [if_pos he]
   · rw [if_neg he, if_neg he]
     unfold r5KnownF_s4 r5KnownF_s8
     have h3 := fun k0 => r5Known_out (R := Out) 100 (by decide) n (by omega) l hs (y : Int) z1 m hrd hF (kR (y : Int) m l) (fun x h => h) hlen k0 n 100 0 (by omega) (by omega)
     have e0 : (kR (y : Int) m l).map (kT (y : Int).toNat 0) = (kA (y : Int) m l).map fun _ => ByteArray.empty := by
       rw [hkA, List.map_map]
       exact List.map_congr_left fun x _ => rfl
     rw [e0, ← hkA, ← hkL, show ((0 : Nat) : Int) = 0 from rfl] at h3
     have e1 : (kA (y : Int) m l).length = (kR (y : Int) m l).length := by rw [hkA, List.length_map]
     have e2 : (kL (y : Int) m (n : Int) l).length = (kR (y : Int) m l).length := by rw [hkL, List.length_map]
     dsimp only
     rw [List.length_map, e1, h3, List.drop_zero, List.drop_zero, List.take_of_length_le (by omega), List.take_of_length_le (by omega)]
  by_cases he : kA (y : Int) m l = []
  · have h0 : kR (y : Int) m l = [] := by
      rw [hkA] at he
      exact List.map_eq_nil_iff.1 he
    rw [if_pos he] at hwalk
    rw [he, hkL, h0]
    exact (callN_fact hN hM T_r5byte_ok hwalk).out fun _ _ _ x h => RV_agg_two (fun _ h => RVs_two (fun _ h => RV_nil_li h) (fun _ h => RVs_two (fun _ h => RV_nil_ls h) (fun _ h => h) h) h) h
  · rw [if_neg he] at hwalk
    exact callN_fact hN hM T_r5byte_ok hwalk
noncomputable def r5Known_ent : List V → List Blk → Option (Bool × Out)
  | [.agg [.s (.int .i64 z), w0], .s (.int .i64 n), w1], [] => (asSl (.pair (.int .i64) (.sl (.int .u64))) w0).bind fun m => (asSl .str w1).bind fun l => some ((rdOk z m l && fitB z m l && bok n l), (.agg [.li .i64 (kA z m l), .ls (kL z m n l)], []))
  | _, _ => none
theorem r5Known_ok : ∀ args bs out, r5Known_ent args bs = some (true, out) → Fact Tryd.prog noG 35 args bs out := by
  intro args bs out h
  unfold r5Known_ent at h
  split at h
  · rename_i z w0 n w1
    obtain ⟨m, h_m, h⟩ := Option.bind_eq_some_iff.1 h
    obtain ⟨l, h_l, h⟩ := Option.bind_eq_some_iff.1 h
    simp only [Option.some.injEq, Prod.mk.injEq] at h
    obtain ⟨hg, rfl⟩ := h
    exact (r5Known_fact z m n l hg).args (fun _ _ _ => fun _ h => RVs_two (fun _ h => RV_agg_two (fun _ h => RVs_two (fun _ h => h) (fun _ h => RVs_two (fun _ h => RV_sl (s := (.pair (.int .i64) (.sl (.int .u64)))) h_m h) (fun _ h => h) h) h) h) (fun _ h => RVs_two (fun _ h => h) (fun _ h => RVs_two (fun _ h => RV_ls h_l h) (fun _ h => h) h) h) h)
  · cases h
noncomputable def T_r5Known : Tbl := Tbl.cons 35 r5Known_ent T_r5byte
theorem T_r5Known_ok : CallOk Tryd.prog noG T_r5Known := cons_ok T_r5byte_ok r5Known_ok
end Go.Proofs.YtfpdcfgjhkiklaaDoor
