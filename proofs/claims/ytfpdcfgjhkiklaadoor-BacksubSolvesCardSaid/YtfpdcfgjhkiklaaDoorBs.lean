/- Blocks that equations tell: what each function tells. -/
import Derived.Test.YtfpdcfgjhkiklaaDoorPmTab
import Derived.KernelRfl
import Derived.Test.YtfpdcfgjhkiklaaDoorProg
import Derived.Test.YtfpdcfgjhkiklaaDoorRed
set_option autoImplicit false
set_option maxRecDepth 100000
set_option maxHeartbeats 4000000
set_option linter.unusedVariables false
set_option linter.unusedSimpArgs false
namespace Go.Proofs.YtfpdcfgjhkiklaaDoor
open Go Go.PM Go.Proofs Go.Shelf Go.PM.Row Go.PM.Bits Go.PM.Bit Go.PM.Blk Go.PM.Lin
def mode18 : FuncId → Nat := fun f => 0
/-! Blocks, summed by a matrix's rows. -/
noncomputable def applyEI (z : Int) (m : List Rw) (n : Int) (l : List ByteArray) : Int := if mrt z m = true then (if bok n l = true ∧ (l.length : Int) = z then 0 else 2) else 1
noncomputable def applyE : Int → List Rw → Int → List ByteArray → Int := Classical.choose (⟨applyEI, rfl⟩ : ∃ f, f = applyEI)
theorem applyE_eq : applyE = applyEI := Classical.choose_spec (⟨applyEI, rfl⟩ : ∃ f, f = applyEI)
noncomputable def applyI (z : Int) (m : List Rw) (n : Int) (l : List ByteArray) : List ByteArray := if applyE z m n l = 0 then m.map (fun r => pickT n l r.1 r.2) else []
noncomputable def applyS : Int → List Rw → Int → List ByteArray → List ByteArray := Classical.choose (⟨applyI, rfl⟩ : ∃ f, f = applyI)
theorem applyS_eq : applyS = applyI := Classical.choose_spec (⟨applyI, rfl⟩ : ∃ f, f = applyI)
/-! Equations: rows, and their blocks. -/
abbrev Eqn := (Int × List Int) × ByteArray
noncomputable def ehasI (n : Int) (ws : List Int) (i : Int) : Bool := decide (i < n) && hasS n ws i
noncomputable def ehasS : Int → List Int → Int → Bool := Classical.choose (⟨ehasI, rfl⟩ : ∃ f, f = ehasI)
theorem ehasS_eq : ehasS = ehasI := Classical.choose_spec (⟨ehasI, rfl⟩ : ∃ f, f = ehasI)
noncomputable def bmayI (z : Int) (m : List Rw) (n : Int) (l : List ByteArray) : Int := if mrt z m = true then (if bok n l = true ∧ l.length = m.length then 0 else 2) else 1
noncomputable def bmayE : Int → List Rw → Int → List ByteArray → Int := Classical.choose (⟨bmayI, rfl⟩ : ∃ f, f = bmayI)
theorem bmayE_eq : bmayE = bmayI := Classical.choose_spec (⟨bmayI, rfl⟩ : ∃ f, f = bmayI)
/-- An equation as a number; and back. -/
noncomputable def augs (z : Int) (m : List Rw) (l : List ByteArray) : List Nat := m.zipWith (fun r s => aug z.toNat (val r.2) (bval (bytesL s))) l
noncomputable def eqU (z : Int) (k u : Nat) : Eqn := ((z, words (nw z) (lo z.toNat u)), txt (byts k (hi z.toNat u)))
noncomputable def szL (l : List ByteArray) : Nat := (l.headD ByteArray.empty).size
noncomputable def fitI (z : Int) (m : List Rw) (l : List ByteArray) : Bool := @decide (Fit z.toNat (augs z m l)) (Classical.propDecidable _)
noncomputable def fitB : Int → List Rw → List ByteArray → Bool := Classical.choose (⟨fitI, rfl⟩ : ∃ f, f = fitI)
theorem fitB_eq : fitB = fitI := Classical.choose_spec (⟨fitI, rfl⟩ : ∃ f, f = fitI)
theorem fit_iff {z : Int} {m : List Rw} {l : List ByteArray} : fitB z m l = true ↔ Fit z.toNat (augs z m l) := by rw [fitB_eq]; unfold fitI; exact @decide_eq_true_iff _ (Classical.propDecidable _)
noncomputable def rdOkI (z : Int) (m : List Rw) (l : List ByteArray) : Bool := okM m && mrt z m && decide (l.length = m.length) && bok (szL l : Int) l
noncomputable def rdOk : Int → List Rw → List ByteArray → Bool := Classical.choose (⟨rdOkI, rfl⟩ : ∃ f, f = rdOkI)
theorem rdOk_eq : rdOk = rdOkI := Classical.choose_spec (⟨rdOkI, rfl⟩ : ∃ f, f = rdOkI)
noncomputable def rdLI (z : Int) (m : List Rw) (l : List ByteArray) : List Eqn := if fitB z m l = true then (Lin.rows (red (augs z m l))).map (eqU z (szL l)) else []
noncomputable def rdL : Int → List Rw → List ByteArray → List Eqn := Classical.choose (⟨rdLI, rfl⟩ : ∃ f, f = rdLI)
theorem rdL_eq : rdL = rdLI := Classical.choose_spec (⟨rdLI, rfl⟩ : ∃ f, f = rdLI)
noncomputable def rdPI (z : Int) (m : List Rw) (l : List ByteArray) : List Int := if fitB z m l = true then echP z m else []
noncomputable def rdP : Int → List Rw → List ByteArray → List Int := Classical.choose (⟨rdPI, rfl⟩ : ∃ f, f = rdPI)
theorem rdP_eq : rdP = rdPI := Classical.choose_spec (⟨rdPI, rfl⟩ : ∃ f, f = rdPI)
/-- What is told already. -/
noncomputable def isTold (z : Int) (x : Nat × Nat) : Bool := decide (lo z.toNat x.2 = 2 ^ x.1)
noncomputable def knEI (z : Int) (m : List Rw) (n : Int) (l : List ByteArray) : Int := if bmayE z m n l = 0 then (if fitB z m l = true then 0 else 10) else bmayE z m n l
noncomputable def knE : Int → List Rw → Int → List ByteArray → Int := Classical.choose (⟨knEI, rfl⟩ : ∃ f, f = knEI)
theorem knE_eq : knE = knEI := Classical.choose_spec (⟨knEI, rfl⟩ : ∃ f, f = knEI)
noncomputable def knAI (z : Int) (m : List Rw) (n : Int) (l : List ByteArray) : List Int := if knE z m n l = 0 then ((red (augs z m l)).filter (isTold z)).map (fun x => (x.1 : Int)) else []
noncomputable def knA : Int → List Rw → Int → List ByteArray → List Int := Classical.choose (⟨knAI, rfl⟩ : ∃ f, f = knAI)
theorem knA_eq : knA = knAI := Classical.choose_spec (⟨knAI, rfl⟩ : ∃ f, f = knAI)
noncomputable def knLI (z : Int) (m : List Rw) (n : Int) (l : List ByteArray) : List ByteArray := if knE z m n l = 0 then ((red (augs z m l)).filter (isTold z)).map (fun x => txt (byts n.toNat (hi z.toNat x.2))) else []
noncomputable def knL : Int → List Rw → Int → List ByteArray → List ByteArray := Classical.choose (⟨knLI, rfl⟩ : ∃ f, f = knLI)
theorem knL_eq : knL = knLI := Classical.choose_spec (⟨knLI, rfl⟩ : ∃ f, f = knLI)
noncomputable def slEI (z : Int) (m : List Rw) (n : Int) (l : List ByteArray) : Int := if knE z m n l = 0 then (if ((knA z m n l).length : Int) < z then 9 else 0) else knE z m n l
noncomputable def slE : Int → List Rw → Int → List ByteArray → Int := Classical.choose (⟨slEI, rfl⟩ : ∃ f, f = slEI)
theorem slE_eq : slE = slEI := Classical.choose_spec (⟨slEI, rfl⟩ : ∃ f, f = slEI)
noncomputable def slLI (z : Int) (m : List Rw) (n : Int) (l : List ByteArray) : List ByteArray := if slE z m n l = 0 then knL z m n l else []
noncomputable def slL : Int → List Rw → Int → List ByteArray → List ByteArray := Classical.choose (⟨slLI, rfl⟩ : ∃ f, f = slLI)
theorem slL_eq : slL = slLI := Classical.choose_spec (⟨slLI, rfl⟩ : ∃ f, f = slLI)
noncomputable def ftBI (z : Int) (m : List Rw) (n : Int) (l : List ByteArray) : Bool := decide (bmayE z m n l = 0) && fitB z m l
noncomputable def ftB : Int → List Rw → Int → List ByteArray → Bool := Classical.choose (⟨ftBI, rfl⟩ : ∃ f, f = ftBI)
theorem ftB_eq : ftB = ftBI := Classical.choose_spec (⟨ftBI, rfl⟩ : ∃ f, f = ftBI)
def mode19 : FuncId → Nat := fun f => 0
/-! (downpour/backsub.equation).has -/
noncomputable def ehasF_s1 {R : Type} (ws : List Int) (i n : Int) (s : ByteArray) (c0 : Bool → Option R) : Option R :=
  grd (okW ws) <|
  br (decide (i < n))
    (c0 (((getS n ws i) : Int) == 1))
    (c0 false)
theorem ehasF_s1_eq (fuel : Nat)  (ws : List Int) (i n : Int) (s : ByteArray) : callN Tryd.prog mode19 T_EchA fuel 128 [.agg [vI n, vW ws, vS s], vI i] [] = ehasF_s1 ws i n s (fun a1 => some (vB a1, [])) := by kernel_rfl
noncomputable def ehasF {R : Type} (fuel : Nat) (n : Int) (ws : List Int) (s : ByteArray) (i : Int) (r0 : Bool → Option R) : Option R :=
  (ehasF_s1 ws i n s (fun a1 => r0 a1))
theorem ehasF_eq (fuel : Nat) (n : Int) (ws : List Int) (s : ByteArray) (i : Int) : callN Tryd.prog mode19 T_EchA fuel 128 [.agg [.s (.int .i64 n), .li .u64 ws, .s (.string s)], .s (.int .i64 i)] [] = ehasF fuel n ws s i (fun z0 => some (.s (.bool z0), [])) := by
  unfold ehasF
  exact (ehasF_s1_eq fuel  ws i n s)
theorem ehas_fact (n : Int) (ws : List Int) (s : ByteArray) (i : Int) (hg : (okW ws) = true) : Fact Tryd.prog noG 128 [.agg [.s (.int .i64 n), .li .u64 ws, .s (.string s)], .s (.int .i64 i)] [] (.s (.bool (ehasS n ws i)), []) := by
  refine callN_fact hN hM T_EchA_ok (n := 0) (mode := mode19) ?_
  rw [ehasF_eq]
  unfold ehasF ehasF_s1
  rw [grd_of hg, br_if, ehasS_eq]
  unfold ehasI
  rw [hasS_eq]
  unfold hasI
  by_cases h : i < n
  · rw [if_pos (by simpa using h), decide_eq_true h, Bool.true_and]
  · rw [if_neg (by simpa using h), decide_eq_false h, Bool.false_and]
noncomputable def ehas_ent : List V → List Blk → Option (Bool × Out)
  | [.agg [.s (.int .i64 n), w0, .s (.string s)], .s (.int .i64 i)], [] => (asSl (.int .u64) w0).bind fun ws => some ((okW ws), (.s (.bool (ehasS n ws i)), []))
  | _, _ => none
theorem ehas_ok : ∀ args bs out, ehas_ent args bs = some (true, out) → Fact Tryd.prog noG 128 args bs out := by
  intro args bs out h
  unfold ehas_ent at h
  split at h
  · rename_i n w0 s i
    obtain ⟨ws, h_ws, h⟩ := Option.bind_eq_some_iff.1 h
    simp only [Option.some.injEq, Prod.mk.injEq] at h
    obtain ⟨hg, rfl⟩ := h
    exact (ehas_fact n ws s i hg).args (fun _ _ _ => fun _ h => RVs_two (fun _ h => RV_agg_two (fun _ h => RVs_two (fun _ h => h) (fun _ h => RVs_two (fun _ h => RV_li h_ws h) (fun _ h => h) h) h) h) (fun _ h => h) h)
  · cases h
noncomputable def T_ehas : Tbl := Tbl.cons 128 ehas_ent T_EchA
theorem T_ehas_ok : CallOk Tryd.prog noG T_ehas := cons_ok T_EchA_ok ehas_ok
/-! (downpour/backsub.equation).with -/
noncomputable def ewithF_s1 {R : Type} (a b : List Int) (n m : Int) (s t : ByteArray) (c0 : Int → List Int → ByteArray → Option R) : Option R :=
  grd (okW a && okW b) <|
  c0 (xorN n a m b) (xorW n a m b) (xorT s t)
theorem ewithF_s1_eq (fuel : Nat)  (a b : List Int) (n m : Int) (s t : ByteArray) : callN Tryd.prog mode19 T_ehas fuel 129 [.agg [vI n, vW a, vS s], .agg [vI m, vW b, vS t]] [] = ewithF_s1 a b n m s t (fun a1 a2 a3 => some (.agg [vI a1, vW a2, vS a3], [])) := by kernel_rfl
noncomputable def ewithF {R : Type} (fuel : Nat) (n : Int) (a : List Int) (s : ByteArray) (m : Int) (b : List Int) (t : ByteArray) (r0 : Int → List Int → ByteArray → Option R) : Option R :=
  (ewithF_s1 a b n m s t (fun a1 a2 a3 => r0 a1 a2 a3))
theorem ewithF_eq (fuel : Nat) (n : Int) (a : List Int) (s : ByteArray) (m : Int) (b : List Int) (t : ByteArray) : callN Tryd.prog mode19 T_ehas fuel 129 [.agg [.s (.int .i64 n), .li .u64 a, .s (.string s)], .agg [.s (.int .i64 m), .li .u64 b, .s (.string t)]] [] = ewithF fuel n a s m b t (fun z0 z1 z2 => some (.agg [.s (.int .i64 z0), .li .u64 z1, .s (.string z2)], [])) := by
  unfold ewithF
  exact (ewithF_s1_eq fuel  a b n m s t)
theorem ewith_fact (n : Int) (a : List Int) (s : ByteArray) (m : Int) (b : List Int) (t : ByteArray) (hg : (okW a && okW b) = true) : Fact Tryd.prog noG 129 [.agg [.s (.int .i64 n), .li .u64 a, .s (.string s)], .agg [.s (.int .i64 m), .li .u64 b, .s (.string t)]] [] (.agg [.s (.int .i64 (xorN n a m b)), .li .u64 (xorW n a m b), .s (.string (xorT s t))], []) := by
  refine callN_fact hN hM T_ehas_ok (n := 0) (mode := mode19) ?_
  rw [ewithF_eq]
  unfold ewithF ewithF_s1
  rw [grd_of hg]
noncomputable def ewith_ent : List V → List Blk → Option (Bool × Out)
  | [.agg [.s (.int .i64 n), w0, .s (.string s)], .agg [.s (.int .i64 m), w1, .s (.string t)]], [] => (asSl (.int .u64) w0).bind fun a => (asSl (.int .u64) w1).bind fun b => some ((okW a && okW b), (.agg [.s (.int .i64 (xorN n a m b)), .li .u64 (xorW n a m b), .s (.string (xorT s t))], []))
  | _, _ => none
theorem ewith_ok : ∀ args bs out, ewith_ent args bs = some (true, out) → Fact Tryd.prog noG 129 args bs out := by
  intro args bs out h
  unfold ewith_ent at h
  split at h
  · rename_i n w0 s m w1 t
    obtain ⟨a, h_a, h⟩ := Option.bind_eq_some_iff.1 h
    obtain ⟨b, h_b, h⟩ := Option.bind_eq_some_iff.1 h
    simp only [Option.some.injEq, Prod.mk.injEq] at h
    obtain ⟨hg, rfl⟩ := h
    exact (ewith_fact n a s m b t hg).args (fun _ _ _ => fun _ h => RVs_two (fun _ h => RV_agg_two (fun _ h => RVs_two (fun _ h => h) (fun _ h => RVs_two (fun _ h => RV_li h_a h) (fun _ h => h) h) h) h) (fun _ h => RVs_two (fun _ h => RV_agg_two (fun _ h => RVs_two (fun _ h => h) (fun _ h => RVs_two (fun _ h => RV_li h_b h) (fun _ h => h) h) h) h) (fun _ h => h) h) h)
  · cases h
noncomputable def T_ewith : Tbl := Tbl.cons 129 ewith_ent T_ehas
theorem T_ewith_ok : CallOk Tryd.prog noG T_ewith := cons_ok T_ehas_ok ewith_ok
/-! downpour/backsub.may -/
noncomputable def bsmayF_s1 {R : Type} (m : List (Int × List Int)) (z n : Int) (l : List ByteArray) (c0 : Int → Option R) : Option R :=
  grd (okM m) <|
  br (!(mrt z m))
    (c0 1)
    (br (((errB n l) : Int) != 0)
      (c0 (errB n l))
      (br ((((l.length : Nat) : Int) : Int) != ((m.length : Nat) : Int))
        (c0 2)
        (c0 0)))
theorem bsmayF_s1_eq (fuel : Nat)  (m : List (Int × List Int)) (z n : Int) (l : List ByteArray) : callN Tryd.prog mode19 T_ewith fuel 80 [.agg [vI z, vR m], vI n, .ls l] [] = bsmayF_s1 m z n l (fun a1 => some (vI a1, [])) := by kernel_rfl
noncomputable def bsmayF {R : Type} (fuel : Nat) (z : Int) (m : List (Int × List Int)) (n : Int) (l : List ByteArray) (r0 : Int → Option R) : Option R :=
  (bsmayF_s1 m z n l (fun a1 => r0 a1))
theorem bsmayF_eq (fuel : Nat) (z : Int) (m : List (Int × List Int)) (n : Int) (l : List ByteArray) : callN Tryd.prog mode19 T_ewith fuel 80 [.agg [.s (.int .i64 z), .lt (.pair (.int .i64) (.sl (.int .u64))) m], .s (.int .i64 n), .ls l] [] = bsmayF fuel z m n l (fun z0 => some (.s (.int .i64 z0), [])) := by
  unfold bsmayF
  exact (bsmayF_s1_eq fuel  m z n l)
theorem bsmay_fact (z : Int) (m : List (Int × List Int)) (n : Int) (l : List ByteArray) (hg : (okM m) = true) : Fact Tryd.prog noG 80 [.agg [.s (.int .i64 z), .lt (.pair (.int .i64) (.sl (.int .u64))) m], .s (.int .i64 n), .ls l] [] (.s (.int .i64 (bmayE z m n l)), []) := by
  refine callN_fact hN hM T_ewith_ok (n := 0) (mode := mode19) ?_
  rw [bsmayF_eq]
  unfold bsmayF bsmayF_s1
  rw [grd_of hg, br_if, br_if, br_if, bmayE_eq]
  unfold bmayI errB
  by_cases hm : mrt z m = true
  · rw [if_neg (by simp [hm]), if_pos hm]
    by_cases hb : bok n l = true
    · rw [if_pos hb, if_neg (by decide)]
      by_cases hl : l.length = m.length
      · rw [if_neg (by simp [hl]), if_pos ⟨hb, hl⟩]
      · rw [if_pos (by simp; omega), if_neg (fun h => hl h.2)]
    · rw [if_neg hb, if_pos (by decide), if_neg (fun h => hb h.1)]
  · rw [if_pos (by simp [hm]), if_neg hm]
noncomputable def bsmay_ent : List V → List Blk → Option (Bool × Out)
  | [.agg [.s (.int .i64 z), w0], .s (.int .i64 n), w1], [] => (asSl (.pair (.int .i64) (.sl (.int .u64))) w0).bind fun m => (asSl .str w1).bind fun l => some ((okM m), (.s (.int .i64 (bmayE z m n l)), []))
  | _, _ => none
theorem bsmay_ok : ∀ args bs out, bsmay_ent args bs = some (true, out) → Fact Tryd.prog noG 80 args bs out := by
  intro args bs out h
  unfold bsmay_ent at h
  split at h
  · rename_i z w0 n w1
    obtain ⟨m, h_m, h⟩ := Option.bind_eq_some_iff.1 h
    obtain ⟨l, h_l, h⟩ := Option.bind_eq_some_iff.1 h
    simp only [Option.some.injEq, Prod.mk.injEq] at h
    obtain ⟨hg, rfl⟩ := h
    exact (bsmay_fact z m n l hg).args (fun _ _ _ => fun _ h => RVs_two (fun _ h => RV_agg_two (fun _ h => RVs_two (fun _ h => h) (fun _ h => RVs_two (fun _ h => RV_sl (s := (.pair (.int .i64) (.sl (.int .u64)))) h_m h) (fun _ h => h) h) h) h) (fun _ h => RVs_two (fun _ h => h) (fun _ h => RVs_two (fun _ h => RV_ls h_l h) (fun _ h => h) h) h) h)
  · cases h
noncomputable def T_bsmay : Tbl := Tbl.cons 80 bsmay_ent T_ewith
theorem T_bsmay_ok : CallOk Tryd.prog noG T_bsmay := cons_ok T_ewith_ok bsmay_ok
/-! Equations as numbers. -/
theorem eqU_ok (z : Int) (k u : Nat) : okW (eqU z k u).1.2 = true := okW_iff.2 (words_ok _ _)
theorem eqU_has {z : Int} (h0 : 0 ≤ z) (h1 : z ≤ 64) (k u : Nat) {i : Nat} (hi : (i : Int) < z) : ehasS (eqU z k u).1.1 (eqU z k u).1.2 (i : Int) = u.testBit i := by
  rw [ehasS_eq]; unfold ehasI
  show (decide ((i : Int) < z) && hasS z (words (nw z) (lo z.toNat u)) (i : Int)) = _
  rw [decide_eq_true hi, Bool.true_and, has_mr h0 h1 (lo_lt _ _) hi, lo_bit, decide_eq_true (by omega), Bool.true_and]
theorem txt_byts_size (k a : Nat) : (txt (byts k a)).size = k := by rw [txt_size, byts_len]
theorem xorT_byts {k a b : Nat} (hk : k ≤ 64) (ha : a < 2 ^ (8 * k)) (hb : b < 2 ^ (8 * k)) : xorT (txt (byts k a)) (txt (byts k b)) = txt (byts k (a ^^^ b)) := by
  rw [xorT_eq]; unfold xorTI
  rw [if_pos (bok_iff.2 ⟨⟨by omega, by rw [txt_byts_size]; omega⟩, by simp, fun s hs => by
    simp only [List.mem_cons, List.not_mem_nil, or_false] at hs
    rcases hs with rfl | rfl <;> simp only [txt_byts_size]⟩), bytes_txt (byts_ok _ _), bytes_txt (byts_ok _ _)]
  congr 1
  refine bval_inj (xb_ok (byts_ok _ _) (byts_ok _ _)) (byts_ok _ _) (by rw [xb_len, byts_len, byts_len, byts_len]; omega) ?_
  rw [bval_xb (byts_ok _ _) (byts_ok _ _) (by rw [byts_len, byts_len]), bval_byts _ _ ha, bval_byts _ _ hb, bval_byts _ _ (Nat.xor_lt_two_pow ha hb)]
theorem eqU_xor {z : Int} (h0 : 0 ≤ z) (h1 : z ≤ 64) {k u o : Nat} (hk : k ≤ 64) (hu : u < 2 ^ (z.toNat + 8 * k)) (ho : o < 2 ^ (z.toNat + 8 * k)) :
    (((xorN (eqU z k u).1.1 (eqU z k u).1.2 (eqU z k o).1.1 (eqU z k o).1.2, xorW (eqU z k u).1.1 (eqU z k u).1.2 (eqU z k o).1.1 (eqU z k o).1.2), xorT (eqU z k u).2 (eqU z k o).2) : Eqn) = eqU z k (u ^^^ o) := by
  obtain ⟨x1, x2⟩ := xor_mr h0 h1 (lo_lt z.toNat u) (lo_lt z.toNat o)
  show (((xorN z (words (nw z) (lo z.toNat u)) z (words (nw z) (lo z.toNat o)), xorW z (words (nw z) (lo z.toNat u)) z (words (nw z) (lo z.toNat o))), xorT (txt (byts k (hi z.toNat u))) (txt (byts k (hi z.toNat o)))) : Eqn) = _
  rw [x1, x2, xorT_byts hk (hi_lt hu) (hi_lt ho)]
  unfold eqU
  rw [lo_xor, hi_xor]
theorem eqs_get {z : Int} {k : Nat} {us : List Nat} {t : Nat} (ht : t < us.length) : (us.map (eqU z k))[0 + t]? = some (eqU z k (us.getD t 0)) := by
  rw [Nat.zero_add, List.getElem?_map, List.getD_eq_getElem?_getD, List.getElem?_eq_getElem ht]; rfl
theorem eqs_set (z : Int) (k : Nat) (us : List Nat) (t v : Nat) : (us.map (eqU z k)).set (0 + t) (eqU z k v) = (us.set t v).map (eqU z k) := by rw [Nat.zero_add, List.map_set]
theorem nought_byts {k a : Nat} (ha : a < 2 ^ (8 * k)) : nought (txt (byts k a)) = true ↔ a = 0 := by
  rw [nought_iff, txt_byts_size, bytes_txt (byts_ok _ _)]
  constructor
  · intro h
    have := congrArg bval h
    rwa [bval_byts _ _ ha, bval_zb] at this
  · rintro rfl
    exact bval_inj (byts_ok _ _) (zb_ok _) (by rw [byts_len]; unfold zb; simp) (by rw [bval_byts _ _ (Nat.two_pow_pos _), bval_zb])
/-- The equations of a matrix and blocks. -/
theorem zip_eqs {z : Int} {k : Nat} : ∀ {m : List Rw} {l : List ByteArray}, (∀ r, r ∈ m → okW r.2 = true ∧ r.1 = z ∧ rtS z r.2 = true) → (∀ s, s ∈ l → s.size = k) → m.zip l = (augs z m l).map (eqU z k) ∧ (m.length = l.length → (augs z m l).map (lo z.toNat) = vals m) ∧ ∀ u, u ∈ augs z m l → u < 2 ^ (z.toNat + 8 * k)
  | [], l, _, _ => by simp [augs, vals]
  | r :: m, [], _, _ => by simp [augs]
  | r :: m, s :: l, hm, hl => by
    obtain ⟨i1, i2, i3⟩ := zip_eqs (m := m) (l := l) (fun r h => hm r (List.mem_cons_of_mem _ h)) (fun s h => hl s (List.mem_cons_of_mem _ h))
    obtain ⟨h1, h2, h3⟩ := hm r List.mem_cons_self
    have hs := hl s List.mem_cons_self
    have hv : val r.2 < 2 ^ z.toNat := (rtS_iff.1 h3).2.2
    have hb : bval (bytesL s) < 2 ^ (8 * k) := by have := bval_lt (bytes_ok s); rwa [bytes_len, hs] at this
    have ea : augs z (r :: m) (s :: l) = aug z.toNat (val r.2) (bval (bytesL s)) :: augs z m l := rfl
    refine ⟨?_, fun h => ?_, fun u hu => ?_⟩
    · rw [ea, List.zip_cons_cons, List.map_cons, i1]
      congr 1
      unfold eqU
      rw [lo_aug hv, hi_aug hv, ← row_words h1 h3]
      have e := byts_bval (bytes_ok s)
      rw [bytes_len, hs] at e
      rw [e, txt_bytes, ← h2]
    · rw [ea, List.map_cons, lo_aug hv, i2 (by simpa using h)]; rfl
    · rw [ea] at hu
      rcases List.mem_cons.1 hu with rfl | hu
      · exact aug_lt hv hb
      · exact i3 u hu
theorem augs_len {z : Int} {m : List Rw} {l : List ByteArray} (h : l.length = m.length) : (augs z m l).length = m.length := by unfold augs; rw [List.length_zipWith]; omega
theorem rdOk_iff {z : Int} {m : List Rw} {l : List ByteArray} : rdOk z m l = true ↔ okM m = true ∧ mrt z m = true ∧ l.length = m.length ∧ bok (szL l : Int) l = true := by rw [rdOk_eq]; unfold rdOkI; simp [and_assoc]
theorem Inv.whole {N M d : Nat} {us0 us qs : List Nat} (h : Lin.Inv M us0 N us d qs) (hNM : N ≤ M) (hz : ∀ b, d ≤ b → b < us.length → us.getD b 0 = 0) : Lin.Inv M us0 M us d qs :=
  { h with
    pl := fun a ha => by have := h.pl a ha; omega
    rest := fun b q hb hl _ => by rw [hz b hb hl, Nat.zero_testBit] }
theorem sw_eqs {z : Int} {k : Nat} {us : List Nat} {d s : Nat} : ((us.map (eqU z k)).set (0 + d) (eqU z k (us.getD s 0))).set (0 + s) (eqU z k (us.getD d 0)) = (sw us d s).map (eqU z k) := by
  unfold sw
  rw [eqs_set, eqs_set]
/-! downpour/backsub.reduced -/
noncomputable abbrev qd0 (fuel : Nat) : Ctx Out := (fnX Tryd.prog mode19 T_bsmay fuel 122 0)
noncomputable abbrev qd1 : Code := (sub (bodyOf Tryd.prog 81) [1, 1, 1, 1, 0, 1, 0, 0])
noncomputable abbrev qd2 : Nat := 5316911983139663491615193056750855536
noncomputable abbrev qd3 : List Nat := [4, 5, 6, 8, 10, 13, 14, 15, 16, 45, 46, 47, 48, 49, 50, 51, 52, 53, 54, 55, 56, 57, 58, 59, 62, 63, 64, 65, 66, 67, 68, 69, 70, 71, 72, 73, 74, 75, 76, 77, 78, 79, 80, 81, 82]
noncomputable abbrev qd4 : Nat × V := (6, vB false)
noncomputable abbrev qd5 : Code := (bodyOf Tryd.prog 81)
noncomputable abbrev qd6 : Nat := 5316901841934861665780016267496785264
noncomputable abbrev qd7 : List Nat := [4, 5, 6, 8, 10, 45, 46, 47]
noncomputable abbrev qd8 : List Nat := [4, 5, 6, 8, 10, 13, 14, 15, 45, 46, 47, 48, 49, 50, 51, 52]
noncomputable abbrev qd9 : Code := (sub qd1 [1, 1, 0, 0, 1, 1, 1, 1, 1, 1, 0, 0])
noncomputable abbrev qd10 : Nat := 5150758483666549007502252358586336624
noncomputable abbrev qd11 : Code := (sub qd1 [1, 1, 0, 0, 1, 1, 0, 0, 0])
noncomputable abbrev qd12 : Code := (sub qd5 [1, 1, 1, 1, 1, 0, 1, 0, 0])
noncomputable abbrev qd13 : Code := (sub qd5 [1, 1, 1, 0, 1, 0, 0])
noncomputable abbrev qd14 : List Nat := [1, 4, 5, 6, 8, 10, 28, 29, 30]
noncomputable abbrev qd15 : List Nat := [4, 5, 6, 8, 10, 106, 107, 108]
noncomputable def reducedF_s3 {R : Type} (w0 w2 : Int) (m : List (Int × List Int)) (l : List ByteArray) (w3 : List ((Int × List Int) × ByteArray)) (w4 : Nat) (w1 : List Int) (c0 : Nat → Int → (List ((Int × List Int) × ByteArray)) → Option R) (c1 : Nat → (List ((Int × List Int) × ByteArray)) → Option R) : Option R :=
  br (decide (w0 < w2))
    (bnd (ix m w0) fun e0 =>
    bnd (ix l w0) fun e1 =>
    grd (Nat.beq w3.length w4) <|
    grd (okN (w4 + 1) 48) <|
    c0 ((w3 ++ [(e0, e1)]).length) (IntKind.i64.wrap (w0 + 1)) (w3 ++ [(e0, e1)]))
    (c1 w4 w3)
theorem reducedF_s3_eq (fuel k : Nat) (K : Ex → St → Option Out) (w0 w2 : Int) (m : List (Int × List Int)) (l : List ByteArray) (w3 : List ((Int × List Int) × ByteArray)) (w4 : Nat) (w1 : List Int) : lpN qd13 (qd0 fuel) qd2 qd14 (k + 1) ⟨[(1, .ls l), (4, vN), (5, vN), qd4, (8, vL w1), (10, .sl 0 3 0 w4), (28, vR m), (29, vI w2), (30, vI w0)], [(0, some ⟨127, .lt (.pair (.pair (.int .i64) (.sl (.int .u64))) .str) w3, true⟩)], 1, none⟩ K = reducedF_s3 w0 w2 m l w3 w4 w1 (fun a0 a1 a2 => lpN qd13 (qd0 fuel) qd2 qd14 k ⟨[(1, .ls l), (4, vN), (5, vN), qd4, (8, vL w1), (10, .sl 0 3 0 a0), (28, vR m), (29, vI w2), (30, vI a1)], [(0, some ⟨127, .lt (.pair (.pair (.int .i64) (.sl (.int .u64))) .str) a2, true⟩)], 1, none⟩ K) (fun a3 a4 => K (.exit 0) ⟨[(4, vN), (5, vN), qd4, (8, vL w1), (10, .sl 0 3 0 a3)], [(0, some ⟨127, .lt (.pair (.pair (.int .i64) (.sl (.int .u64))) .str) a4, true⟩)], 1, none⟩) := by kernel_rfl
noncomputable def reducedF_l2 {R : Type} (fuel : Nat) (l : List ByteArray) (w1 : List Int) (m : List (Int × List Int)) (w2 : Int) (k0 : Nat → (List ((Int × List Int) × ByteArray)) → Option R) : Nat → Nat → Int → (List ((Int × List Int) × ByteArray)) → Option R
  | 0, _, _, _ => none
  | k + 1, w0, w3, w4 =>
    (reducedF_s3 w3 w2 m l w4 w0 w1 (fun a0 a1 a2 => ( reducedF_l2 fuel l w1 m w2 k0 k a0 a1 a2 )) (fun a3 a4 => k0 a3 a4))
theorem reducedF_l2_eq (fuel : Nat) (l : List ByteArray) (w1 : List Int) (m : List (Int × List Int)) (w2 : Int) (K : Ex → St → Option Out) : ∀ (k w0 : Nat) (w3 : Int) (w4 : List ((Int × List Int) × ByteArray)), lpN qd13 (qd0 fuel) qd2 qd14 k ⟨[(1, .ls l), (4, vN), (5, vN), qd4, (8, vL w1), (10, .sl 0 3 0 w0), (28, vR m), (29, vI w2), (30, vI w3)], [(0, some ⟨127, .lt (.pair (.pair (.int .i64) (.sl (.int .u64))) .str) w4, true⟩)], 1, none⟩ K = reducedF_l2 fuel l w1 m w2 (fun y0 y1 => K (.exit 0) ⟨[(4, vN), (5, vN), qd4, (8, vL w1), (10, .sl 0 3 0 y0)], [(0, some ⟨127, .lt (.pair (.pair (.int .i64) (.sl (.int .u64))) .str) y1, true⟩)], 1, none⟩) k w0 w3 w4
  | 0, _, _, _ => rfl
  | k + 1, w0, w3, w4 => by
    unfold reducedF_l2
    exact (reducedF_s3_eq fuel k K w3 w2 m l w4 w0 w1).trans (congr (congr (Eq.refl (reducedF_s3 (R := Out) w3 w2 m l w4 w0 w1)) (funext fun a0 => funext fun a1 => funext fun a2 => reducedF_l2_eq fuel l w1 m w2 K k a0 a1 a2)) (rfl))
noncomputable def reducedF_s2 {R : Type} (w2 : Int) (m : List (Int × List Int)) (l : List ByteArray) (w1 : List Int) (c0 : Nat → Int → (List ((Int × List Int) × ByteArray)) → Option R) (c1 : List Int → Option R) : Option R :=
  br (decide (0 < w2))
    (bnd (ix m 0) fun e0 =>
    bnd (ix l 0) fun e1 =>
    c0 1 1 ([(e0, e1)]))
    (c1 w1)
theorem reducedF_s2_eq (fuel k : Nat) (K : Ex → St → Option Out) (w2 : Int) (m : List (Int × List Int)) (l : List ByteArray) (w1 : List Int) : lpN qd13 (qd0 fuel) qd2 qd14 (k + 1) ⟨[(1, .ls l), (4, vN), (5, vN), qd4, (8, vL w1), (10, vN), (28, vR m), (29, vI w2), (30, vI 0)], [], 0, none⟩ K = reducedF_s2 w2 m l w1 (fun a0 a1 a2 => lpN qd13 (qd0 fuel) qd2 qd14 k ⟨[(1, .ls l), (4, vN), (5, vN), qd4, (8, vL w1), (10, .sl 0 3 0 a0), (28, vR m), (29, vI w2), (30, vI a1)], [(0, some ⟨127, .lt (.pair (.pair (.int .i64) (.sl (.int .u64))) .str) a2, true⟩)], 1, none⟩ K) (fun a3 => K (.exit 0) ⟨[(4, vN), (5, vN), qd4, (8, vL a3), (10, vN)], [], 0, none⟩) := by kernel_rfl
noncomputable def reducedF_l1 {R : Type} (fuel : Nat) (l : List ByteArray) (m : List (Int × List Int)) (k0 : List Int → Nat → (List ((Int × List Int) × ByteArray)) → Option R) (k1 : List Int → Option R) : Nat → List Int → Int → Option R
  | 0, _, _ => none
  | k + 1, w1, w2 =>
    (reducedF_s2 w2 m l w1 (fun a0 a1 a2 => (reducedF_l2 fuel l w1 m w2 (fun x0 x1 => k0 w1 x0 x1) k a0 a1 a2)) (fun a3 => k1 a3))
theorem reducedF_l1_eq (fuel : Nat) (l : List ByteArray) (m : List (Int × List Int)) (K : Ex → St → Option Out) : ∀ (k : Nat) (w1 : List Int) (w2 : Int), lpN qd13 (qd0 fuel) qd2 qd14 k ⟨[(1, .ls l), (4, vN), (5, vN), qd4, (8, vL w1), (10, vN), (28, vR m), (29, vI w2), (30, vI 0)], [], 0, none⟩ K = reducedF_l1 fuel l m (fun y0 y1 y2 => K (.exit 0) ⟨[(4, vN), (5, vN), qd4, (8, vL y0), (10, .sl 0 3 0 y1)], [(0, some ⟨127, .lt (.pair (.pair (.int .i64) (.sl (.int .u64))) .str) y2, true⟩)], 1, none⟩) (fun y3 => K (.exit 0) ⟨[(4, vN), (5, vN), qd4, (8, vL y3), (10, vN)], [], 0, none⟩) k w1 w2
  | 0, _, _ => rfl
  | k + 1, w1, w2 => by
    unfold reducedF_l1
    exact (reducedF_s2_eq fuel k K w2 m l w1).trans (congr (congr (Eq.refl (reducedF_s2 (R := Out) w2 m l w1)) (funext fun a0 => funext fun a1 => funext fun a2 => reducedF_l2_eq fuel l w1 m w2 K k a0 a1 a2)) (rfl))
noncomputable def reducedF_s6 {R : Type} (w0 : Int) (x0 : Nat) (w1 : List ((Int × List Int) × ByteArray)) (e0 : Int) (w2 : Bool) (x1 : List Int) (w3 w4 : Int) (c0 : Int → Bool → Option R) (c1 : Int → Bool → Nat → Int → List Int → ByteArray → Bool → Bool → Option R) : Option R :=
  bnd (below w0 x0) fun j0 =>
  bnd (w1[(0 + j0)]?) fun e1 =>
  grd (okW e1.1.2) <|
  br (!(ehasS e1.1.1 e1.1.2 e0))
    (c0 (IntKind.i64.wrap (w0 + 1)) w2)
    (c1 w0 w2 (0 + j0) e1.1.1 e1.1.2 e1.2 (ehasS e1.1.1 e1.1.2 e0) (!(ehasS e1.1.1 e1.1.2 e0)))
theorem reducedF_s6_eq (fuel k : Nat) (K : Ex → St → Option Out) (w0 : Int) (x0 : Nat) (w1 : List ((Int × List Int) × ByteArray)) (e0 : Int) (w2 : Bool) (x1 : List Int) (w3 w4 : Int) : lpN qd11 (qd0 fuel) qd2 qd8 (k + 1) ⟨[(4, vN), (5, vN), qd4, (8, vL x1), (10, .sl 0 3 0 x0), (13, vI w3), (14, vI e0), (15, vI w0), (45, vL x1), (46, vI w4), (47, vI w3), (48, vB w2), (49, vI w3), (50, .lp [vI e0] 0), (51, vI e0), (52, vI w3)], [(0, some ⟨127, .lt (.pair (.pair (.int .i64) (.sl (.int .u64))) .str) w1, true⟩)], 1, none⟩ K = reducedF_s6 w0 x0 w1 e0 w2 x1 w3 w4 (fun a0 a1 => lpN qd11 (qd0 fuel) qd2 qd8 k ⟨[(4, vN), (5, vN), qd4, (8, vL x1), (10, .sl 0 3 0 x0), (13, vI w3), (14, vI e0), (15, vI a0), (45, vL x1), (46, vI w4), (47, vI w3), (48, vB a1), (49, vI w3), (50, .lp [vI e0] 0), (51, vI e0), (52, vI w3)], [(0, some ⟨127, .lt (.pair (.pair (.int .i64) (.sl (.int .u64))) .str) w1, true⟩)], 1, none⟩ K) (fun a2 a3 a4 a5 a6 a7 a8 a9 => K (.exit 4) ⟨[(4, vN), (5, vN), qd4, (8, vL x1), (10, .sl 0 3 0 x0), (13, vI w3), (14, vI e0), (15, vI a2), (45, vL x1), (46, vI w4), (47, vI w3), (48, vB a3), (49, vI w3), (50, .lp [vI e0] 0), (51, vI e0), (52, vI w3), (53, .sl 0 3 0 x0), (54, vI a2), (55, .ptr 0 3 a4 0), (56, .agg [vI a5, vW a6, vS a7]), (57, vI e0), (58, vB a8), (59, vB a9)], [(0, some ⟨127, .lt (.pair (.pair (.int .i64) (.sl (.int .u64))) .str) w1, true⟩)], 1, none⟩) := by kernel_rfl
noncomputable def reducedF_l4 {R : Type} (fuel : Nat) (x0 : List Int) (x1 : Nat) (w0 e0 w1 : Int) (w2 : List ((Int × List Int) × ByteArray)) (k0 : Int → Bool → Nat → Int → List Int → ByteArray → Bool → Bool → Option R) : Nat → Int → Bool → Option R
  | 0, _, _ => none
  | k + 1, w3, w4 =>
    (reducedF_s6 w3 x1 w2 e0 w4 x0 w0 w1 (fun a0 a1 => ( reducedF_l4 fuel x0 x1 w0 e0 w1 w2 k0 k a0 a1 )) (fun a2 a3 a4 a5 a6 a7 a8 a9 => k0 a2 a3 a4 a5 a6 a7 a8 a9))
theorem reducedF_l4_eq (fuel : Nat) (x0 : List Int) (x1 : Nat) (w0 e0 w1 : Int) (w2 : List ((Int × List Int) × ByteArray)) (K : Ex → St → Option Out) : ∀ (k : Nat) (w3 : Int) (w4 : Bool), lpN qd11 (qd0 fuel) qd2 qd8 k ⟨[(4, vN), (5, vN), qd4, (8, vL x0), (10, .sl 0 3 0 x1), (13, vI w0), (14, vI e0), (15, vI w3), (45, vL x0), (46, vI w1), (47, vI w0), (48, vB w4), (49, vI w0), (50, .lp [vI e0] 0), (51, vI e0), (52, vI w0)], [(0, some ⟨127, .lt (.pair (.pair (.int .i64) (.sl (.int .u64))) .str) w2, true⟩)], 1, none⟩ K = reducedF_l4 fuel x0 x1 w0 e0 w1 w2 (fun y0 y1 y2 y3 y4 y5 y6 y7 => K (.exit 4) ⟨[(4, vN), (5, vN), qd4, (8, vL x0), (10, .sl 0 3 0 x1), (13, vI w0), (14, vI e0), (15, vI y0), (45, vL x0), (46, vI w1), (47, vI w0), (48, vB y1), (49, vI w0), (50, .lp [vI e0] 0), (51, vI e0), (52, vI w0), (53, .sl 0 3 0 x1), (54, vI y0), (55, .ptr 0 3 y2 0), (56, .agg [vI y3, vW y4, vS y5]), (57, vI e0), (58, vB y6), (59, vB y7)], [(0, some ⟨127, .lt (.pair (.pair (.int .i64) (.sl (.int .u64))) .str) w2, true⟩)], 1, none⟩) k w3 w4
  | 0, _, _ => rfl
  | k + 1, w3, w4 => by
    unfold reducedF_l4
    exact (reducedF_s6_eq fuel k K w3 x1 w2 e0 w4 x0 w0 w1).trans (congr (congr (Eq.refl (reducedF_s6 (R := Out) w3 x1 w2 e0 w4 x0 w0 w1)) (funext fun a0 => funext fun a1 => reducedF_l4_eq fuel x0 x1 w0 e0 w1 w2 K k a0 a1)) (rfl))
noncomputable def reducedF_s8 {R : Type} (w0 w1 : Int) (x0 : Nat) (w2 : List ((Int × List Int) × ByteArray)) (w3 e0 : Int) (w4 : List Int) (w5 : Nat) (w6 : Int) (w7 : List Int) (w8 : ByteArray) (w9 : Nat) (w10 : Int) (w11 : List Int) (w12 : ByteArray) (w13 w14 w15 : Nat) (w16 : Int) (w17 : ByteArray) (x1 : List Int) (x2 w18 : Int) (x3 : Bool) (x4 : Nat) (x5 : Int) (x6 : List Int) (x7 : ByteArray) (x8 x9 : Bool) (c0 : Nat → Int → List Int → ByteArray → Nat → Int → List Int → ByteArray → Nat → Nat → Nat → Int → List Int → ByteArray → Int → Int → (List ((Int × List Int) × ByteArray)) → Option R) (c1 : Nat → Int → List Int → ByteArray → Nat → Int → List Int → ByteArray → Nat → Nat → Nat → Int → List Int → ByteArray → Int → Int → (List ((Int × List Int) × ByteArray)) → Option R) (c2 : Nat → Int → List Int → ByteArray → Nat → Int → List Int → ByteArray → Nat → Nat → Nat → Int → List Int → ByteArray → Int → Int → (List ((Int × List Int) × ByteArray)) → Option R) (c3 : Nat → Int → List Int → ByteArray → Nat → Int → List Int → ByteArray → Nat → Nat → Nat → Int → List Int → ByteArray → Int → Int → Bool → (List ((Int × List Int) × ByteArray)) → Option R) : Option R :=
  br (decide (w0 < w1))
    (bnd (below w0 x0) fun j0 =>
    bnd (w2[(0 + j0)]?) fun e1 =>
    br (w0 != w3)
      (grd (okW e1.1.2) <|
      br (ehasS e1.1.1 e1.1.2 e0)
        (grd (okW e1.1.2 && okW w4) <|
        bnd (below w0 x0) fun j1 =>
        bnd (w2[(0 + j1)]?) fun e2 =>
        c0 w5 w6 w7 w8 w9 w10 w11 w12 w13 w14 w15 w16 w4 w17 w1 (IntKind.i64.wrap (w0 + 1)) (w2.set (0 + j1) (((xorN e1.1.1 e1.1.2 w16 w4), (xorW e1.1.1 e1.1.2 w16 w4)), (xorT e1.2 w17))))
        (c1 w5 w6 w7 w8 w9 w10 w11 w12 w13 w14 w15 w16 w4 w17 w1 (IntKind.i64.wrap (w0 + 1)) w2))
      (c2 w5 w6 w7 w8 w9 w10 w11 w12 w13 w14 w15 w16 w4 w17 w1 (IntKind.i64.wrap (w0 + 1)) w2))
    (c3 w5 w6 w7 w8 w9 w10 w11 w12 w13 w14 w15 w16 w4 w17 w1 w0 (decide (w0 < w1)) w2)
theorem reducedF_s8_eq (fuel k : Nat) (K : Ex → St → Option Out) (w0 w1 : Int) (x0 : Nat) (w2 : List ((Int × List Int) × ByteArray)) (w3 e0 : Int) (w4 : List Int) (w5 : Nat) (w6 : Int) (w7 : List Int) (w8 : ByteArray) (w9 : Nat) (w10 : Int) (w11 : List Int) (w12 : ByteArray) (w13 w14 w15 : Nat) (w16 : Int) (w17 : ByteArray) (x1 : List Int) (x2 w18 : Int) (x3 : Bool) (x4 : Nat) (x5 : Int) (x6 : List Int) (x7 : ByteArray) (x8 x9 : Bool) : lpN qd9 (qd0 fuel) qd2 qd3 (k + 1) ⟨[(4, vN), (5, vN), qd4, (8, vL x1), (10, .sl 0 3 0 x0), (13, vI w3), (14, vI e0), (15, vI x2), (16, .ptr 1 3 0 0), (45, vL x1), (46, vI w18), (47, vI w3), (48, vB x3), (49, vI w3), (50, .lp [vI e0] 0), (51, vI e0), (52, vI w3), (53, .sl 0 3 0 x0), (54, vI x2), (55, .ptr 0 3 x4 0), (56, .agg [vI x5, vW x6, vS x7]), (57, vI e0), (58, vB x8), (59, vB x9), (62, .sl 0 3 0 x0), (63, vI w3), (64, .sl 0 3 0 x0), (65, vI x2), (66, .sl 0 3 0 x0), (67, vI x2), (68, .ptr 0 3 w5 0), (69, .agg [vI w6, vW w7, vS w8]), (70, .sl 0 3 0 x0), (71, vI w3), (72, .ptr 0 3 w9 0), (73, .agg [vI w10, vW w11, vS w12]), (74, .ptr 0 3 w13 0), (75, .ptr 0 3 w14 0), (76, .sl 0 3 0 x0), (77, vI w3), (78, .ptr 0 3 w15 0), (79, .agg [vI w16, vW w4, vS w17]), (80, .sl 0 3 0 x0), (81, vI w1), (82, vI w0)], [(0, some ⟨127, .lt (.pair (.pair (.int .i64) (.sl (.int .u64))) .str) w2, true⟩), (1, some ⟨127, .agg [vI w16, vW w4, vS w17], true⟩)], 2, none⟩ K = reducedF_s8 w0 w1 x0 w2 w3 e0 w4 w5 w6 w7 w8 w9 w10 w11 w12 w13 w14 w15 w16 w17 x1 x2 w18 x3 x4 x5 x6 x7 x8 x9 (fun a0 a1 a2 a3 a4 a5 a6 a7 a8 a9 a10 a11 a12 a13 a14 a15 a16 => lpN qd9 (qd0 fuel) qd2 qd3 k ⟨[(4, vN), (5, vN), qd4, (8, vL x1), (10, .sl 0 3 0 x0), (13, vI w3), (14, vI e0), (15, vI x2), (16, .ptr 1 3 0 0), (45, vL x1), (46, vI w18), (47, vI w3), (48, vB x3), (49, vI w3), (50, .lp [vI e0] 0), (51, vI e0), (52, vI w3), (53, .sl 0 3 0 x0), (54, vI x2), (55, .ptr 0 3 x4 0), (56, .agg [vI x5, vW x6, vS x7]), (57, vI e0), (58, vB x8), (59, vB x9), (62, .sl 0 3 0 x0), (63, vI w3), (64, .sl 0 3 0 x0), (65, vI x2), (66, .sl 0 3 0 x0), (67, vI x2), (68, .ptr 0 3 a0 0), (69, .agg [vI a1, vW a2, vS a3]), (70, .sl 0 3 0 x0), (71, vI w3), (72, .ptr 0 3 a4 0), (73, .agg [vI a5, vW a6, vS a7]), (74, .ptr 0 3 a8 0), (75, .ptr 0 3 a9 0), (76, .sl 0 3 0 x0), (77, vI w3), (78, .ptr 0 3 a10 0), (79, .agg [vI a11, vW a12, vS a13]), (80, .sl 0 3 0 x0), (81, vI a14), (82, vI a15)], [(0, some ⟨127, .lt (.pair (.pair (.int .i64) (.sl (.int .u64))) .str) a16, true⟩), (1, some ⟨127, .agg [vI a11, vW a12, vS a13], true⟩)], 2, none⟩ K) (fun a17 a18 a19 a20 a21 a22 a23 a24 a25 a26 a27 a28 a29 a30 a31 a32 a33 => lpN qd9 (qd0 fuel) qd2 qd3 k ⟨[(4, vN), (5, vN), qd4, (8, vL x1), (10, .sl 0 3 0 x0), (13, vI w3), (14, vI e0), (15, vI x2), (16, .ptr 1 3 0 0), (45, vL x1), (46, vI w18), (47, vI w3), (48, vB x3), (49, vI w3), (50, .lp [vI e0] 0), (51, vI e0), (52, vI w3), (53, .sl 0 3 0 x0), (54, vI x2), (55, .ptr 0 3 x4 0), (56, .agg [vI x5, vW x6, vS x7]), (57, vI e0), (58, vB x8), (59, vB x9), (62, .sl 0 3 0 x0), (63, vI w3), (64, .sl 0 3 0 x0), (65, vI x2), (66, .sl 0 3 0 x0), (67, vI x2), (68, .ptr 0 3 a17 0), (69, .agg [vI a18, vW a19, vS a20]), (70, .sl 0 3 0 x0), (71, vI w3), (72, .ptr 0 3 a21 0), (73, .agg [vI a22, vW a23, vS a24]), (74, .ptr 0 3 a25 0), (75, .ptr 0 3 a26 0), (76, .sl 0 3 0 x0), (77, vI w3), (78, .ptr 0 3 a27 0), (79, .agg [vI a28, vW a29, vS a30]), (80, .sl 0 3 0 x0), (81, vI a31), (82, vI a32)], [(0, some ⟨127, .lt (.pair (.pair (.int .i64) (.sl (.int .u64))) .str) a33, true⟩), (1, some ⟨127, .agg [vI a28, vW a29, vS a30], true⟩)], 2, none⟩ K) (fun a34 a35 a36 a37 a38 a39 a40 a41 a42 a43 a44 a45 a46 a47 a48 a49 a50 => lpN qd9 (qd0 fuel) qd2 qd3 k ⟨[(4, vN), (5, vN), qd4, (8, vL x1), (10, .sl 0 3 0 x0), (13, vI w3), (14, vI e0), (15, vI x2), (16, .ptr 1 3 0 0), (45, vL x1), (46, vI w18), (47, vI w3), (48, vB x3), (49, vI w3), (50, .lp [vI e0] 0), (51, vI e0), (52, vI w3), (53, .sl 0 3 0 x0), (54, vI x2), (55, .ptr 0 3 x4 0), (56, .agg [vI x5, vW x6, vS x7]), (57, vI e0), (58, vB x8), (59, vB x9), (62, .sl 0 3 0 x0), (63, vI w3), (64, .sl 0 3 0 x0), (65, vI x2), (66, .sl 0 3 0 x0), (67, vI x2), (68, .ptr 0 3 a34 0), (69, .agg [vI a35, vW a36, vS a37]), (70, .sl 0 3 0 x0), (71, vI w3), (72, .ptr 0 3 a38 0), (73, .agg [vI a39, vW a40, vS a41]), (74, .ptr 0 3 a42 0), (75, .ptr 0 3 a43 0), (76, .sl 0 3 0 x0), (77, vI w3), (78, .ptr 0 3 a44 0), (79, .agg [vI a45, vW a46, vS a47]), (80, .sl 0 3 0 x0), (81, vI a48), (82, vI a49)], [(0, some ⟨127, .lt (.pair (.pair (.int .i64) (.sl (.int .u64))) .str) a50, true⟩), (1, some ⟨127, .agg [vI a45, vW a46, vS a47], true⟩)], 2, none⟩ K) (fun a51 a52 a53 a54 a55 a56 a57 a58 a59 a60 a61 a62 a63 a64 a65 a66 a67 a68 => K (.exit 6) ⟨[(4, vN), (5, vN), qd4, (8, vL x1), (10, .sl 0 3 0 x0), (13, vI w3), (14, vI e0), (15, vI x2), (16, .ptr 1 3 0 0), (45, vL x1), (46, vI w18), (47, vI w3), (48, vB x3), (49, vI w3), (50, .lp [vI e0] 0), (51, vI e0), (52, vI w3), (53, .sl 0 3 0 x0), (54, vI x2), (55, .ptr 0 3 x4 0), (56, .agg [vI x5, vW x6, vS x7]), (57, vI e0), (58, vB x8), (59, vB x9), (62, .sl 0 3 0 x0), (63, vI w3), (64, .sl 0 3 0 x0), (65, vI x2), (66, .sl 0 3 0 x0), (67, vI x2), (68, .ptr 0 3 a51 0), (69, .agg [vI a52, vW a53, vS a54]), (70, .sl 0 3 0 x0), (71, vI w3), (72, .ptr 0 3 a55 0), (73, .agg [vI a56, vW a57, vS a58]), (74, .ptr 0 3 a59 0), (75, .ptr 0 3 a60 0), (76, .sl 0 3 0 x0), (77, vI w3), (78, .ptr 0 3 a61 0), (79, .agg [vI a62, vW a63, vS a64]), (80, .sl 0 3 0 x0), (81, vI a65), (82, vI a66), (83, vB a67)], [(0, some ⟨127, .lt (.pair (.pair (.int .i64) (.sl (.int .u64))) .str) a68, true⟩), (1, some ⟨127, .agg [vI a62, vW a63, vS a64], true⟩)], 2, none⟩) := by kernel_rfl
noncomputable def reducedF_l5 {R : Type} (fuel : Nat) (x0 : List Int) (x1 : Nat) (w0 e0 x2 w1 : Int) (x3 : Bool) (x4 : Nat) (x5 : Int) (x6 : List Int) (x7 : ByteArray) (x8 x9 : Bool) (k0 : Nat → Int → List Int → ByteArray → Nat → Int → List Int → ByteArray → Nat → Nat → Nat → Int → List Int → ByteArray → Int → Int → Bool → (List ((Int × List Int) × ByteArray)) → Option R) : Nat → Nat → Int → List Int → ByteArray → Nat → Int → List Int → ByteArray → Nat → Nat → Nat → Int → List Int → ByteArray → Int → Int → (List ((Int × List Int) × ByteArray)) → Option R
  | 0, _, _, _, _, _, _, _, _, _, _, _, _, _, _, _, _, _ => none
  | k + 1, w2, w3, w4, w5, w6, w7, w8, w9, w10, w11, w12, w13, w14, w15, w16, w17, w18 =>
    (reducedF_s8 w17 w16 x1 w18 w0 e0 w14 w2 w3 w4 w5 w6 w7 w8 w9 w10 w11 w12 w13 w15 x0 x2 w1 x3 x4 x5 x6 x7 x8 x9 (fun a0 a1 a2 a3 a4 a5 a6 a7 a8 a9 a10 a11 a12 a13 a14 a15 a16 => ( reducedF_l5 fuel x0 x1 w0 e0 x2 w1 x3 x4 x5 x6 x7 x8 x9 k0 k a0 a1 a2 a3 a4 a5 a6 a7 a8 a9 a10 a11 a12 a13 a14 a15 a16 )) (fun a17 a18 a19 a20 a21 a22 a23 a24 a25 a26 a27 a28 a29 a30 a31 a32 a33 => ( reducedF_l5 fuel x0 x1 w0 e0 x2 w1 x3 x4 x5 x6 x7 x8 x9 k0 k a17 a18 a19 a20 a21 a22 a23 a24 a25 a26 a27 a28 a29 a30 a31 a32 a33 )) (fun a34 a35 a36 a37 a38 a39 a40 a41 a42 a43 a44 a45 a46 a47 a48 a49 a50 => ( reducedF_l5 fuel x0 x1 w0 e0 x2 w1 x3 x4 x5 x6 x7 x8 x9 k0 k a34 a35 a36 a37 a38 a39 a40 a41 a42 a43 a44 a45 a46 a47 a48 a49 a50 )) (fun a51 a52 a53 a54 a55 a56 a57 a58 a59 a60 a61 a62 a63 a64 a65 a66 a67 a68 => k0 a51 a52 a53 a54 a55 a56 a57 a58 a59 a60 a61 a62 a63 a64 a65 a66 a67 a68))
theorem reducedF_l5_eq (fuel : Nat) (x0 : List Int) (x1 : Nat) (w0 e0 x2 w1 : Int) (x3 : Bool) (x4 : Nat) (x5 : Int) (x6 : List Int) (x7 : ByteArray) (x8 x9 : Bool) (K : Ex → St → Option Out) : ∀ (k w2 : Nat) (w3 : Int) (w4 : List Int) (w5 : ByteArray) (w6 : Nat) (w7 : Int) (w8 : List Int) (w9 : ByteArray) (w10 w11 w12 : Nat) (w13 : Int) (w14 : List Int) (w15 : ByteArray) (w16 w17 : Int) (w18 : List ((Int × List Int) × ByteArray)), lpN qd9 (qd0 fuel) qd2 qd3 k ⟨[(4, vN), (5, vN), qd4, (8, vL x0), (10, .sl 0 3 0 x1), (13, vI w0), (14, vI e0), (15, vI x2), (16, .ptr 1 3 0 0), (45, vL x0), (46, vI w1), (47, vI w0), (48, vB x3), (49, vI w0), (50, .lp [vI e0] 0), (51, vI e0), (52, vI w0), (53, .sl 0 3 0 x1), (54, vI x2), (55, .ptr 0 3 x4 0), (56, .agg [vI x5, vW x6, vS x7]), (57, vI e0), (58, vB x8), (59, vB x9), (62, .sl 0 3 0 x1), (63, vI w0), (64, .sl 0 3 0 x1), (65, vI x2), (66, .sl 0 3 0 x1), (67, vI x2), (68, .ptr 0 3 w2 0), (69, .agg [vI w3, vW w4, vS w5]), (70, .sl 0 3 0 x1), (71, vI w0), (72, .ptr 0 3 w6 0), (73, .agg [vI w7, vW w8, vS w9]), (74, .ptr 0 3 w10 0), (75, .ptr 0 3 w11 0), (76, .sl 0 3 0 x1), (77, vI w0), (78, .ptr 0 3 w12 0), (79, .agg [vI w13, vW w14, vS w15]), (80, .sl 0 3 0 x1), (81, vI w16), (82, vI w17)], [(0, some ⟨127, .lt (.pair (.pair (.int .i64) (.sl (.int .u64))) .str) w18, true⟩), (1, some ⟨127, .agg [vI w13, vW w14, vS w15], true⟩)], 2, none⟩ K = reducedF_l5 fuel x0 x1 w0 e0 x2 w1 x3 x4 x5 x6 x7 x8 x9 (fun y0 y1 y2 y3 y4 y5 y6 y7 y8 y9 y10 y11 y12 y13 y14 y15 y16 y17 => K (.exit 6) ⟨[(4, vN), (5, vN), qd4, (8, vL x0), (10, .sl 0 3 0 x1), (13, vI w0), (14, vI e0), (15, vI x2), (16, .ptr 1 3 0 0), (45, vL x0), (46, vI w1), (47, vI w0), (48, vB x3), (49, vI w0), (50, .lp [vI e0] 0), (51, vI e0), (52, vI w0), (53, .sl 0 3 0 x1), (54, vI x2), (55, .ptr 0 3 x4 0), (56, .agg [vI x5, vW x6, vS x7]), (57, vI e0), (58, vB x8), (59, vB x9), (62, .sl 0 3 0 x1), (63, vI w0), (64, .sl 0 3 0 x1), (65, vI x2), (66, .sl 0 3 0 x1), (67, vI x2), (68, .ptr 0 3 y0 0), (69, .agg [vI y1, vW y2, vS y3]), (70, .sl 0 3 0 x1), (71, vI w0), (72, .ptr 0 3 y4 0), (73, .agg [vI y5, vW y6, vS y7]), (74, .ptr 0 3 y8 0), (75, .ptr 0 3 y9 0), (76, .sl 0 3 0 x1), (77, vI w0), (78, .ptr 0 3 y10 0), (79, .agg [vI y11, vW y12, vS y13]), (80, .sl 0 3 0 x1), (81, vI y14), (82, vI y15), (83, vB y16)], [(0, some ⟨127, .lt (.pair (.pair (.int .i64) (.sl (.int .u64))) .str) y17, true⟩), (1, some ⟨127, .agg [vI y11, vW y12, vS y13], true⟩)], 2, none⟩) k w2 w3 w4 w5 w6 w7 w8 w9 w10 w11 w12 w13 w14 w15 w16 w17 w18
  | 0, _, _, _, _, _, _, _, _, _, _, _, _, _, _, _, _, _ => rfl
  | k + 1, w2, w3, w4, w5, w6, w7, w8, w9, w10, w11, w12, w13, w14, w15, w16, w17, w18 => by
    unfold reducedF_l5
    exact (reducedF_s8_eq fuel k K w17 w16 x1 w18 w0 e0 w14 w2 w3 w4 w5 w6 w7 w8 w9 w10 w11 w12 w13 w15 x0 x2 w1 x3 x4 x5 x6 x7 x8 x9).trans (congr (congr (congr (congr (Eq.refl (reducedF_s8 (R := Out) w17 w16 x1 w18 w0 e0 w14 w2 w3 w4 w5 w6 w7 w8 w9 w10 w11 w12 w13 w15 x0 x2 w1 x3 x4 x5 x6 x7 x8 x9)) (funext fun a0 => funext fun a1 => funext fun a2 => funext fun a3 => funext fun a4 => funext fun a5 => funext fun a6 => funext fun a7 => funext fun a8 => funext fun a9 => funext fun a10 => funext fun a11 => funext fun a12 => funext fun a13 => funext fun a14 => funext fun a15 => funext fun a16 => reducedF_l5_eq fuel x0 x1 w0 e0 x2 w1 x3 x4 x5 x6 x7 x8 x9 K k a0 a1 a2 a3 a4 a5 a6 a7 a8 a9 a10 a11 a12 a13 a14 a15 a16)) (funext fun a17 => funext fun a18 => funext fun a19 => funext fun a20 => funext fun a21 => funext fun a22 => funext fun a23 => funext fun a24 => funext fun a25 => funext fun a26 => funext fun a27 => funext fun a28 => funext fun a29 => funext fun a30 => funext fun a31 => funext fun a32 => funext fun a33 => reducedF_l5_eq fuel x0 x1 w0 e0 x2 w1 x3 x4 x5 x6 x7 x8 x9 K k a17 a18 a19 a20 a21 a22 a23 a24 a25 a26 a27 a28 a29 a30 a31 a32 a33)) (funext fun a34 => funext fun a35 => funext fun a36 => funext fun a37 => funext fun a38 => funext fun a39 => funext fun a40 => funext fun a41 => funext fun a42 => funext fun a43 => funext fun a44 => funext fun a45 => funext fun a46 => funext fun a47 => funext fun a48 => funext fun a49 => funext fun a50 => reducedF_l5_eq fuel x0 x1 w0 e0 x2 w1 x3 x4 x5 x6 x7 x8 x9 K k a34 a35 a36 a37 a38 a39 a40 a41 a42 a43 a44 a45 a46 a47 a48 a49 a50)) (rfl))
noncomputable def reducedF_s9 {R : Type} (w0 w1 : Int) (x0 : List ((Int × List Int) × ByteArray)) (x1 : List Int) (x2 : Nat) (e0 x3 : Int) (x4 : Bool) (x5 : Nat) (x6 : Int) (x7 : List Int) (x8 : ByteArray) (x9 x10 : Bool) (x11 : Nat) (x12 : Int) (x13 : List Int) (x14 : ByteArray) (x15 : Nat) (x16 : Int) (x17 : List Int) (x18 : ByteArray) (x19 x20 x21 : Nat) (x22 : Int) (x23 : List Int) (x24 : ByteArray) (x25 x26 : Int) (x27 : Bool) (c0 : Int → Int → (List ((Int × List Int) × ByteArray)) → Option R) : Option R :=
  c0 w0 (IntKind.i64.wrap (w1 + 1)) x0
theorem reducedF_s9_eq (fuel k : Nat) (K : Ex → St → Option Out) (w0 w1 : Int) (x0 : List ((Int × List Int) × ByteArray)) (x1 : List Int) (x2 : Nat) (e0 x3 : Int) (x4 : Bool) (x5 : Nat) (x6 : Int) (x7 : List Int) (x8 : ByteArray) (x9 x10 : Bool) (x11 : Nat) (x12 : Int) (x13 : List Int) (x14 : ByteArray) (x15 : Nat) (x16 : Int) (x17 : List Int) (x18 : ByteArray) (x19 x20 x21 : Nat) (x22 : Int) (x23 : List Int) (x24 : ByteArray) (x25 x26 : Int) (x27 : Bool) : (kont (qd0 fuel) qd1 [1, 1, 0, 0, 1, 1, 1, 1, 1, 1, 0] qd2 (rdK qd1 (qd0 fuel) qd6 qd7 k K)) (.exit 6) ⟨[(4, vN), (5, vN), qd4, (8, vL x1), (10, .sl 0 3 0 x2), (13, vI w1), (14, vI e0), (15, vI x3), (16, .ptr 1 3 0 0), (45, vL x1), (46, vI w0), (47, vI w1), (48, vB x4), (49, vI w1), (50, .lp [vI e0] 0), (51, vI e0), (52, vI w1), (53, .sl 0 3 0 x2), (54, vI x3), (55, .ptr 0 3 x5 0), (56, .agg [vI x6, vW x7, vS x8]), (57, vI e0), (58, vB x9), (59, vB x10), (62, .sl 0 3 0 x2), (63, vI w1), (64, .sl 0 3 0 x2), (65, vI x3), (66, .sl 0 3 0 x2), (67, vI x3), (68, .ptr 0 3 x11 0), (69, .agg [vI x12, vW x13, vS x14]), (70, .sl 0 3 0 x2), (71, vI w1), (72, .ptr 0 3 x15 0), (73, .agg [vI x16, vW x17, vS x18]), (74, .ptr 0 3 x19 0), (75, .ptr 0 3 x20 0), (76, .sl 0 3 0 x2), (77, vI w1), (78, .ptr 0 3 x21 0), (79, .agg [vI x22, vW x23, vS x24]), (80, .sl 0 3 0 x2), (81, vI x25), (82, vI x26), (83, vB x27)], [(0, some ⟨127, .lt (.pair (.pair (.int .i64) (.sl (.int .u64))) .str) x0, true⟩), (1, some ⟨127, .agg [vI x22, vW x23, vS x24], true⟩)], 2, none⟩ = reducedF_s9 w0 w1 x0 x1 x2 e0 x3 x4 x5 x6 x7 x8 x9 x10 x11 x12 x13 x14 x15 x16 x17 x18 x19 x20 x21 x22 x23 x24 x25 x26 x27 (fun a0 a1 a2 => lpN qd1 (qd0 fuel) qd6 qd7 k ⟨[(4, vN), (5, vN), qd4, (8, vL x1), (10, .sl 0 3 0 x2), (45, vL x1), (46, vI a0), (47, vI a1)], [(0, some ⟨127, .lt (.pair (.pair (.int .i64) (.sl (.int .u64))) .str) a2, true⟩)], 1, none⟩ K) := by kernel_rfl
noncomputable def reducedF_s7 {R : Type} (x0 : Int) (x1 : Nat) (w0 : List ((Int × List Int) × ByteArray)) (w1 : Int) (x2 : List Int) (e0 w2 : Int) (x3 : Bool) (x4 : Nat) (x5 : Int) (x6 : List Int) (x7 : ByteArray) (x8 x9 : Bool) (c0 : Nat → Int → List Int → ByteArray → Nat → Int → List Int → ByteArray → Nat → Nat → Nat → Int → List Int → ByteArray → Int → Int → (List ((Int × List Int) × ByteArray)) → Option R) : Option R :=
  bnd (below x0 x1) fun j0 =>
  bnd (w0[(0 + j0)]?) fun e1 =>
  bnd (below w1 x1) fun j1 =>
  bnd (w0[(0 + j1)]?) fun e2 =>
  bnd (below w1 x1) fun j2 =>
  bnd (w0[(0 + j2)]?) fun e3 =>
  bnd (below x0 x1) fun j3 =>
  bnd ((w0.set (0 + j2) e1)[(0 + j3)]?) fun e4 =>
  bnd (below w1 x1) fun j4 =>
  bnd (((w0.set (0 + j2) e1).set (0 + j3) e2)[(0 + j4)]?) fun e5 =>
  c0 (0 + j0) e1.1.1 e1.1.2 e1.2 (0 + j1) e2.1.1 e2.1.2 e2.2 (0 + j2) (0 + j3) (0 + j4) e5.1.1 e5.1.2 e5.2 ((x1 : Nat) : Int) 0 ((w0.set (0 + j2) e1).set (0 + j3) e2)
theorem reducedF_s7_eq (fuel k : Nat) (K : Ex → St → Option Out) (x0 : Int) (x1 : Nat) (w0 : List ((Int × List Int) × ByteArray)) (w1 : Int) (x2 : List Int) (e0 w2 : Int) (x3 : Bool) (x4 : Nat) (x5 : Int) (x6 : List Int) (x7 : ByteArray) (x8 x9 : Bool) : (kont (qd0 fuel) qd1 [1, 1, 0, 0, 1, 1, 0, 0] qd2 (rdK qd1 (qd0 fuel) qd6 qd7 k K)) (.exit 4) ⟨[(4, vN), (5, vN), qd4, (8, vL x2), (10, .sl 0 3 0 x1), (13, vI w1), (14, vI e0), (15, vI x0), (45, vL x2), (46, vI w2), (47, vI w1), (48, vB x3), (49, vI w1), (50, .lp [vI e0] 0), (51, vI e0), (52, vI w1), (53, .sl 0 3 0 x1), (54, vI x0), (55, .ptr 0 3 x4 0), (56, .agg [vI x5, vW x6, vS x7]), (57, vI e0), (58, vB x8), (59, vB x9)], [(0, some ⟨127, .lt (.pair (.pair (.int .i64) (.sl (.int .u64))) .str) w0, true⟩)], 1, none⟩ = reducedF_s7 x0 x1 w0 w1 x2 e0 w2 x3 x4 x5 x6 x7 x8 x9 (fun a0 a1 a2 a3 a4 a5 a6 a7 a8 a9 a10 a11 a12 a13 a14 a15 a16 => lpN qd9 (qd0 fuel) qd2 qd3 fuel ⟨[(4, vN), (5, vN), qd4, (8, vL x2), (10, .sl 0 3 0 x1), (13, vI w1), (14, vI e0), (15, vI x0), (16, .ptr 1 3 0 0), (45, vL x2), (46, vI w2), (47, vI w1), (48, vB x3), (49, vI w1), (50, .lp [vI e0] 0), (51, vI e0), (52, vI w1), (53, .sl 0 3 0 x1), (54, vI x0), (55, .ptr 0 3 x4 0), (56, .agg [vI x5, vW x6, vS x7]), (57, vI e0), (58, vB x8), (59, vB x9), (62, .sl 0 3 0 x1), (63, vI w1), (64, .sl 0 3 0 x1), (65, vI x0), (66, .sl 0 3 0 x1), (67, vI x0), (68, .ptr 0 3 a0 0), (69, .agg [vI a1, vW a2, vS a3]), (70, .sl 0 3 0 x1), (71, vI w1), (72, .ptr 0 3 a4 0), (73, .agg [vI a5, vW a6, vS a7]), (74, .ptr 0 3 a8 0), (75, .ptr 0 3 a9 0), (76, .sl 0 3 0 x1), (77, vI w1), (78, .ptr 0 3 a10 0), (79, .agg [vI a11, vW a12, vS a13]), (80, .sl 0 3 0 x1), (81, vI a14), (82, vI a15)], [(0, some ⟨127, .lt (.pair (.pair (.int .i64) (.sl (.int .u64))) .str) a16, true⟩), (1, some ⟨127, .agg [vI a11, vW a12, vS a13], true⟩)], 2, none⟩ (kont (qd0 fuel) qd1 [1, 1, 0, 0, 1, 1, 1, 1, 1, 1, 0] qd2 (rdK qd1 (qd0 fuel) qd6 qd7 k K))) := by kernel_rfl
noncomputable def reducedF_s5 {R : Type} (w0 w1 : Int) (x0 : List Int) (w2 : List ((Int × List Int) × ByteArray)) (x1 : Nat) (c0 : Int → Bool → Int → Option R) (c1 : (List ((Int × List Int) × ByteArray)) → Option R) : Option R :=
  br (decide (w0 < w1))
    (bnd (ix x0 w0) fun e0 =>
    c0 w0 (decide (w0 < w1)) e0)
    (c1 w2)
theorem reducedF_s5_eq (fuel k : Nat) (K : Ex → St → Option Out) (w0 w1 : Int) (x0 : List Int) (w2 : List ((Int × List Int) × ByteArray)) (x1 : Nat) : lpN qd1 (qd0 fuel) qd6 qd7 (k + 1) ⟨[(4, vN), (5, vN), qd4, (8, vL x0), (10, .sl 0 3 0 x1), (45, vL x0), (46, vI w1), (47, vI w0)], [(0, some ⟨127, .lt (.pair (.pair (.int .i64) (.sl (.int .u64))) .str) w2, true⟩)], 1, none⟩ K = reducedF_s5 w0 w1 x0 w2 x1 (fun a0 a1 e0 => lpN qd11 (qd0 fuel) qd2 qd8 fuel ⟨[(4, vN), (5, vN), qd4, (8, vL x0), (10, .sl 0 3 0 x1), (13, vI w0), (14, vI e0), (15, vI a0), (45, vL x0), (46, vI w1), (47, vI w0), (48, vB a1), (49, vI w0), (50, .lp [vI e0] 0), (51, vI e0), (52, vI w0)], [(0, some ⟨127, .lt (.pair (.pair (.int .i64) (.sl (.int .u64))) .str) w2, true⟩)], 1, none⟩ (kont (qd0 fuel) qd1 [1, 1, 0, 0, 1, 1, 0, 0] qd2 (rdK qd1 (qd0 fuel) qd6 qd7 k K))) (fun a2 => K (.exit 2) ⟨[(4, vN), (5, vN), qd4, (8, vL x0), (10, .sl 0 3 0 x1)], [(0, some ⟨127, .lt (.pair (.pair (.int .i64) (.sl (.int .u64))) .str) a2, true⟩)], 1, none⟩) := by kernel_rfl
noncomputable def reducedF_l3 {R : Type} (fuel : Nat) (x0 : List Int) (x1 : Nat) (k0 : (List ((Int × List Int) × ByteArray)) → Option R) : Nat → Int → Int → (List ((Int × List Int) × ByteArray)) → Option R
  | 0, _, _, _ => none
  | k + 1, w0, w1, w2 =>
    (reducedF_s5 w1 w0 x0 w2 x1 (fun a0 a1 e0 => (reducedF_l4 fuel x0 x1 w1 e0 w0 w2 (fun x2 x3 x4 x5 x6 x7 x8 x9 => (reducedF_s7 x2 x1 w2 w1 x0 e0 w0 x3 x4 x5 x6 x7 x8 x9 (fun a2 a3 a4 a5 a6 a7 a8 a9 a10 a11 a12 a13 a14 a15 a16 a17 a18 => (reducedF_l5 fuel x0 x1 w1 e0 x2 w0 x3 x4 x5 x6 x7 x8 x9 (fun x10 x11 x12 x13 x14 x15 x16 x17 x18 x19 x20 x21 x22 x23 x24 x25 x26 x27 => (reducedF_s9 w0 w1 x27 x0 x1 e0 x2 x3 x4 x5 x6 x7 x8 x9 x10 x11 x12 x13 x14 x15 x16 x17 x18 x19 x20 x21 x22 x23 x24 x25 x26 (fun a19 a20 a21 => ( reducedF_l3 fuel x0 x1 k0 k a19 a20 a21 )))) fuel a2 a3 a4 a5 a6 a7 a8 a9 a10 a11 a12 a13 a14 a15 a16 a17 a18)))) fuel a0 a1)) (fun a22 => k0 a22))
theorem reducedF_l3_eq (fuel : Nat) (x0 : List Int) (x1 : Nat) (K : Ex → St → Option Out) : ∀ (k : Nat) (w0 w1 : Int) (w2 : List ((Int × List Int) × ByteArray)), lpN qd1 (qd0 fuel) qd6 qd7 k ⟨[(4, vN), (5, vN), qd4, (8, vL x0), (10, .sl 0 3 0 x1), (45, vL x0), (46, vI w0), (47, vI w1)], [(0, some ⟨127, .lt (.pair (.pair (.int .i64) (.sl (.int .u64))) .str) w2, true⟩)], 1, none⟩ K = reducedF_l3 fuel x0 x1 (fun y0 => K (.exit 2) ⟨[(4, vN), (5, vN), qd4, (8, vL x0), (10, .sl 0 3 0 x1)], [(0, some ⟨127, .lt (.pair (.pair (.int .i64) (.sl (.int .u64))) .str) y0, true⟩)], 1, none⟩) k w0 w1 w2
  | 0, _, _, _ => rfl
  | k + 1, w0, w1, w2 => by
    unfold reducedF_l3
    exact (reducedF_s5_eq fuel k K w1 w0 x0 w2 x1).trans (congr (congr (Eq.refl (reducedF_s5 (R := Out) w1 w0 x0 w2 x1)) (funext fun a0 => funext fun a1 => funext fun e0 => (reducedF_l4_eq fuel x0 x1 w1 e0 w0 w2 (kont (qd0 fuel) qd1 [1, 1, 0, 0, 1, 1, 0, 0] qd2 (rdK qd1 (qd0 fuel) qd6 qd7 k K)) fuel a0 a1).trans (congrFun (congrFun (congrFun (congr (Eq.refl (reducedF_l4 (R := Out) fuel x0 x1 w1 e0 w0 w2)) (funext fun x2 => funext fun x3 => funext fun x4 => funext fun x5 => funext fun x6 => funext fun x7 => funext fun x8 => funext fun x9 => (reducedF_s7_eq fuel k K x2 x1 w2 w1 x0 e0 w0 x3 x4 x5 x6 x7 x8 x9).trans (congr (Eq.refl (reducedF_s7 (R := Out) x2 x1 w2 w1 x0 e0 w0 x3 x4 x5 x6 x7 x8 x9)) (funext fun a2 => funext fun a3 => funext fun a4 => funext fun a5 => funext fun a6 => funext fun a7 => funext fun a8 => funext fun a9 => funext fun a10 => funext fun a11 => funext fun a12 => funext fun a13 => funext fun a14 => funext fun a15 => funext fun a16 => funext fun a17 => funext fun a18 => (reducedF_l5_eq fuel x0 x1 w1 e0 x2 w0 x3 x4 x5 x6 x7 x8 x9 (kont (qd0 fuel) qd1 [1, 1, 0, 0, 1, 1, 1, 1, 1, 1, 0] qd2 (rdK qd1 (qd0 fuel) qd6 qd7 k K)) fuel a2 a3 a4 a5 a6 a7 a8 a9 a10 a11 a12 a13 a14 a15 a16 a17 a18).trans (congrFun (congrFun (congrFun (congrFun (congrFun (congrFun (congrFun (congrFun (congrFun (congrFun (congrFun (congrFun (congrFun (congrFun (congrFun (congrFun (congrFun (congrFun (congr (Eq.refl (reducedF_l5 (R := Out) fuel x0 x1 w1 e0 x2 w0 x3 x4 x5 x6 x7 x8 x9)) (funext fun x10 => funext fun x11 => funext fun x12 => funext fun x13 => funext fun x14 => funext fun x15 => funext fun x16 => funext fun x17 => funext fun x18 => funext fun x19 => funext fun x20 => funext fun x21 => funext fun x22 => funext fun x23 => funext fun x24 => funext fun x25 => funext fun x26 => funext fun x27 => (reducedF_s9_eq fuel k K w0 w1 x27 x0 x1 e0 x2 x3 x4 x5 x6 x7 x8 x9 x10 x11 x12 x13 x14 x15 x16 x17 x18 x19 x20 x21 x22 x23 x24 x25 x26).trans (congr (Eq.refl (reducedF_s9 (R := Out) w0 w1 x27 x0 x1 e0 x2 x3 x4 x5 x6 x7 x8 x9 x10 x11 x12 x13 x14 x15 x16 x17 x18 x19 x20 x21 x22 x23 x24 x25 x26)) (funext fun a19 => funext fun a20 => funext fun a21 => reducedF_l3_eq fuel x0 x1 K k a19 a20 a21)))) fuel) a2) a3) a4) a5) a6) a7) a8) a9) a10) a11) a12) a13) a14) a15) a16) a17) a18))))) fuel) a0) a1))) (rfl))
noncomputable def reducedF_s11 {R : Type} (w0 w1 : Int) (w2 : Nat) (x0 : List ((Int × List Int) × ByteArray)) (w3 : Nat) (x1 : List Int) (x2 : Nat) (c0 : Option R) (c1 : Nat → Nat → Int → Int → Option R) (c2 : Option R) : Option R :=
  br (decide (w0 < w1))
    (bnd (below w0 w2) fun j0 =>
    bnd (x0[(w3 + j0)]?) fun e0 =>
    grd (decide (e0.2.size ≤ 1000000000000)) <|
    br (!(nought e0.2))
      (c0)
      (c1 w3 w2 w1 (IntKind.i64.wrap (w0 + 1))))
    (c2)
theorem reducedF_s11_eq (fuel k : Nat) (K : Ex → St → Option Out) (w0 w1 : Int) (w2 : Nat) (x0 : List ((Int × List Int) × ByteArray)) (w3 : Nat) (x1 : List Int) (x2 : Nat) : lpN qd12 (qd0 fuel) qd10 qd15 (k + 1) ⟨[(4, vN), (5, vN), qd4, (8, vL x1), (10, .sl 0 3 0 x2), (106, .sl 0 3 w3 w2), (107, vI w1), (108, vI w0)], [(0, some ⟨127, .lt (.pair (.pair (.int .i64) (.sl (.int .u64))) .str) x0, true⟩)], 1, none⟩ K = reducedF_s11 w0 w1 w2 x0 w3 x1 x2 (K .ret ⟨[(4, vN), (5, vN), qd4, (8, vL x1), (10, .sl 0 3 0 x2)], [(0, some ⟨127, .lt (.pair (.pair (.int .i64) (.sl (.int .u64))) .str) x0, true⟩)], 1, none⟩) (fun a0 a1 a2 a3 => lpN qd12 (qd0 fuel) qd10 qd15 k ⟨[(4, vN), (5, vN), qd4, (8, vL x1), (10, .sl 0 3 0 x2), (106, .sl 0 3 a0 a1), (107, vI a2), (108, vI a3)], [(0, some ⟨127, .lt (.pair (.pair (.int .i64) (.sl (.int .u64))) .str) x0, true⟩)], 1, none⟩ K) (K (.exit 8) ⟨[(4, vN), (5, vN), qd4, (8, vL x1), (10, .sl 0 3 0 x2)], [(0, some ⟨127, .lt (.pair (.pair (.int .i64) (.sl (.int .u64))) .str) x0, true⟩)], 1, none⟩) := by kernel_rfl
noncomputable def reducedF_l6 {R : Type} (fuel : Nat) (x0 : List Int) (x1 : Nat) (x2 : List ((Int × List Int) × ByteArray)) (k0 k1 : Option R) : Nat → Nat → Nat → Int → Int → Option R
  | 0, _, _, _, _ => none
  | k + 1, w0, w1, w2, w3 =>
    (reducedF_s11 w3 w2 w1 x2 w0 x0 x1 (k0) (fun a0 a1 a2 a3 => ( reducedF_l6 fuel x0 x1 x2 k0 k1 k a0 a1 a2 a3 )) (k1))
theorem reducedF_l6_eq (fuel : Nat) (x0 : List Int) (x1 : Nat) (x2 : List ((Int × List Int) × ByteArray)) (K : Ex → St → Option Out) : ∀ (k w0 w1 : Nat) (w2 w3 : Int), lpN qd12 (qd0 fuel) qd10 qd15 k ⟨[(4, vN), (5, vN), qd4, (8, vL x0), (10, .sl 0 3 0 x1), (106, .sl 0 3 w0 w1), (107, vI w2), (108, vI w3)], [(0, some ⟨127, .lt (.pair (.pair (.int .i64) (.sl (.int .u64))) .str) x2, true⟩)], 1, none⟩ K = reducedF_l6 fuel x0 x1 x2 (K .ret ⟨[(4, vN), (5, vN), qd4, (8, vL x0), (10, .sl 0 3 0 x1)], [(0, some ⟨127, .lt (.pair (.pair (.int .i64) (.sl (.int .u64))) .str) x2, true⟩)], 1, none⟩) (K (.exit 8) ⟨[(4, vN), (5, vN), qd4, (8, vL x0), (10, .sl 0 3 0 x1)], [(0, some ⟨127, .lt (.pair (.pair (.int .i64) (.sl (.int .u64))) .str) x2, true⟩)], 1, none⟩) k w0 w1 w2 w3
  | 0, _, _, _, _ => rfl
  | k + 1, w0, w1, w2, w3 => by
    unfold reducedF_l6
    exact (reducedF_s11_eq fuel k K w3 w2 w1 x2 w0 x0 x1).trans (congr (congr (congr (Eq.refl (reducedF_s11 (R := Out) w3 w2 w1 x2 w0 x0 x1)) (rfl)) (funext fun a0 => funext fun a1 => funext fun a2 => funext fun a3 => reducedF_l6_eq fuel x0 x1 x2 K k a0 a1 a2 a3)) (rfl))
noncomputable def reducedF_s12 {R : Type} (x0 : List Int) (x1 : Nat) (x2 : List ((Int × List Int) × ByteArray)) (c0 : Bool → Option R) : Option R :=
  c0 false
theorem reducedF_s12_eq (fuel : Nat)  (x0 : List Int) (x1 : Nat) (x2 : List ((Int × List Int) × ByteArray)) : (kont (qd0 fuel) qd5 [1, 1, 1, 1, 1, 0, 1, 0] 112 (endK Tryd.prog 0 0 81)) .ret ⟨[(4, vN), (5, vN), qd4, (8, vL x0), (10, .sl 0 3 0 x1)], [(0, some ⟨127, .lt (.pair (.pair (.int .i64) (.sl (.int .u64))) .str) x2, true⟩)], 1, none⟩ = reducedF_s12 x0 x1 x2 (fun a0 => some (.tup [vN, vN, vB a0], [])) := by kernel_rfl
noncomputable def reducedF_s13 {R : Type} (x0 : List Int) (x1 : Nat) (x2 : List ((Int × List Int) × ByteArray)) (c0 : (List ((Int × List Int) × ByteArray)) → List Int → Bool → Option R) : Option R :=
  bnd (upTo ((x0.length : Nat) : Int) x1) fun j0 =>
  c0 ((x2.drop 0).take (j0 - 0)) x0 true
theorem reducedF_s13_eq (fuel : Nat)  (x0 : List Int) (x1 : Nat) (x2 : List ((Int × List Int) × ByteArray)) : (kont (qd0 fuel) qd5 [1, 1, 1, 1, 1, 0, 1, 0] 112 (endK Tryd.prog 0 0 81)) (.exit 8) ⟨[(4, vN), (5, vN), qd4, (8, vL x0), (10, .sl 0 3 0 x1)], [(0, some ⟨127, .lt (.pair (.pair (.int .i64) (.sl (.int .u64))) .str) x2, true⟩)], 1, none⟩ = reducedF_s13 x0 x1 x2 (fun a0 a1 a2 => some (.tup [.lt (.pair (.pair (.int .i64) (.sl (.int .u64))) .str) a0, vL a1, vB a2], [])) := by kernel_rfl
noncomputable def reducedF_s10 {R : Type} (x0 : List Int) (x1 : Nat) (x2 : List ((Int × List Int) × ByteArray)) (c0 : Nat → Nat → Int → Int → Option R) : Option R :=
  bnd (upTo ((x0.length : Nat) : Int) x1) fun j0 =>
  c0 (0 + j0) (x1 - j0) (((x1 - j0) : Nat) : Int) 0
theorem reducedF_s10_eq (fuel : Nat)  (x0 : List Int) (x1 : Nat) (x2 : List ((Int × List Int) × ByteArray)) : (kont (qd0 fuel) qd5 [1, 1, 1, 1, 0, 1, 0] 112 (endK Tryd.prog 0 0 81)) (.exit 2) ⟨[(4, vN), (5, vN), qd4, (8, vL x0), (10, .sl 0 3 0 x1)], [(0, some ⟨127, .lt (.pair (.pair (.int .i64) (.sl (.int .u64))) .str) x2, true⟩)], 1, none⟩ = reducedF_s10 x0 x1 x2 (fun a0 a1 a2 a3 => lpN qd12 (qd0 fuel) qd10 qd15 fuel ⟨[(4, vN), (5, vN), qd4, (8, vL x0), (10, .sl 0 3 0 x1), (106, .sl 0 3 a0 a1), (107, vI a2), (108, vI a3)], [(0, some ⟨127, .lt (.pair (.pair (.int .i64) (.sl (.int .u64))) .str) x2, true⟩)], 1, none⟩ (kont (qd0 fuel) qd5 [1, 1, 1, 1, 1, 0, 1, 0] 112 (endK Tryd.prog 0 0 81))) := by kernel_rfl
noncomputable def reducedF_s4 {R : Type} (x0 : List Int) (x1 : List ((Int × List Int) × ByteArray)) (x2 : Nat) (c0 : Int → Int → (List ((Int × List Int) × ByteArray)) → Option R) : Option R :=
  c0 ((x0.length : Nat) : Int) 0 x1
theorem reducedF_s4_eq (fuel : Nat)  (x0 : List Int) (x1 : List ((Int × List Int) × ByteArray)) (x2 : Nat) : (kont (qd0 fuel) qd5 [1, 1, 1, 0, 1, 0] 112 (endK Tryd.prog 0 0 81)) (.exit 0) ⟨[(4, vN), (5, vN), qd4, (8, vL x0), (10, .sl 0 3 0 x2)], [(0, some ⟨127, .lt (.pair (.pair (.int .i64) (.sl (.int .u64))) .str) x1, true⟩)], 1, none⟩ = reducedF_s4 x0 x1 x2 (fun a0 a1 a2 => lpN qd1 (qd0 fuel) qd6 qd7 fuel ⟨[(4, vN), (5, vN), qd4, (8, vL x0), (10, .sl 0 3 0 x2), (45, vL x0), (46, vI a0), (47, vI a1)], [(0, some ⟨127, .lt (.pair (.pair (.int .i64) (.sl (.int .u64))) .str) a2, true⟩)], 1, none⟩ (kont (qd0 fuel) qd5 [1, 1, 1, 1, 0, 1, 0] 112 (endK Tryd.prog 0 0 81))) := by kernel_rfl
noncomputable def reducedF_s16 {R : Type} (x0 : List Int) (e0 w0 : Int) (w1 : Bool)  : Option R :=
  none
theorem reducedF_s16_eq (fuel k : Nat) (K : Ex → St → Option Out) (x0 : List Int) (e0 w0 : Int) (w1 : Bool) : lpN qd11 (qd0 fuel) qd2 qd8 (k + 1) ⟨[(4, vN), (5, vN), qd4, (8, vL x0), (10, vN), (13, vI 0), (14, vI e0), (15, vI 0), (45, vL x0), (46, vI w0), (47, vI 0), (48, vB w1), (49, vI 0), (50, .lp [vI e0] 0), (51, vI e0), (52, vI 0)], [], 0, none⟩ K = reducedF_s16 x0 e0 w0 w1  := by kernel_rfl
noncomputable def reducedF_l8 {R : Type} (fuel : Nat) (x0 : List Int) (e0 w0 : Int)  : Nat → Bool → Option R
  | 0, _ => none
  | k + 1, w1 =>
    (reducedF_s16 x0 e0 w0 w1)
theorem reducedF_l8_eq (fuel : Nat) (x0 : List Int) (e0 w0 : Int) (K : Ex → St → Option Out) : ∀ (k : Nat) (w1 : Bool), lpN qd11 (qd0 fuel) qd2 qd8 k ⟨[(4, vN), (5, vN), qd4, (8, vL x0), (10, vN), (13, vI 0), (14, vI e0), (15, vI 0), (45, vL x0), (46, vI w0), (47, vI 0), (48, vB w1), (49, vI 0), (50, .lp [vI e0] 0), (51, vI e0), (52, vI 0)], [], 0, none⟩ K = reducedF_l8 fuel x0 e0 w0  k w1
  | 0, _ => rfl
  | k + 1, w1 => by
    unfold reducedF_l8
    exact (reducedF_s16_eq fuel k K x0 e0 w0 w1)
noncomputable def reducedF_s15 {R : Type} (w0 : Int) (x0 : List Int) (c0 : Bool → Int → Option R) (c1 : Option R) : Option R :=
  br (decide (0 < w0))
    (bnd (ix x0 0) fun e0 =>
    c0 (decide (0 < w0)) e0)
    (c1)
theorem reducedF_s15_eq (fuel k : Nat) (K : Ex → St → Option Out) (w0 : Int) (x0 : List Int) : lpN qd1 (qd0 fuel) qd6 qd7 (k + 1) ⟨[(4, vN), (5, vN), qd4, (8, vL x0), (10, vN), (45, vL x0), (46, vI w0), (47, vI 0)], [], 0, none⟩ K = reducedF_s15 w0 x0 (fun a0 e0 => lpN qd11 (qd0 fuel) qd2 qd8 fuel ⟨[(4, vN), (5, vN), qd4, (8, vL x0), (10, vN), (13, vI 0), (14, vI e0), (15, vI 0), (45, vL x0), (46, vI w0), (47, vI 0), (48, vB a0), (49, vI 0), (50, .lp [vI e0] 0), (51, vI e0), (52, vI 0)], [], 0, none⟩ (kont (qd0 fuel) qd1 [1, 1, 0, 0, 1, 1, 0, 0] qd2 (rdK qd1 (qd0 fuel) qd6 qd7 k K))) (K (.exit 2) ⟨[(4, vN), (5, vN), qd4, (8, vL x0), (10, vN)], [], 0, none⟩) := by kernel_rfl
noncomputable def reducedF_l7 {R : Type} (fuel : Nat) (x0 : List Int) (k0 : Option R) : Nat → Int → Option R
  | 0, _ => none
  | k + 1, w0 =>
    (reducedF_s15 w0 x0 (fun a0 e0 => (reducedF_l8 fuel x0 e0 w0 fuel a0)) (k0))
theorem reducedF_l7_eq (fuel : Nat) (x0 : List Int) (K : Ex → St → Option Out) : ∀ (k : Nat) (w0 : Int), lpN qd1 (qd0 fuel) qd6 qd7 k ⟨[(4, vN), (5, vN), qd4, (8, vL x0), (10, vN), (45, vL x0), (46, vI w0), (47, vI 0)], [], 0, none⟩ K = reducedF_l7 fuel x0 (K (.exit 2) ⟨[(4, vN), (5, vN), qd4, (8, vL x0), (10, vN)], [], 0, none⟩) k w0
  | 0, _ => rfl
  | k + 1, w0 => by
    unfold reducedF_l7
    exact (reducedF_s15_eq fuel k K w0 x0).trans (congr (congr (Eq.refl (reducedF_s15 (R := Out) w0 x0)) (funext fun a0 => funext fun e0 => reducedF_l8_eq fuel x0 e0 w0 (kont (qd0 fuel) qd1 [1, 1, 0, 0, 1, 1, 0, 0] qd2 (rdK qd1 (qd0 fuel) qd6 qd7 k K)) fuel a0)) (rfl))
noncomputable def reducedF_s18 {R : Type} (x0 : List Int) (c0 : Option R) : Option R :=
  c0
theorem reducedF_s18_eq (fuel k : Nat) (K : Ex → St → Option Out) (x0 : List Int) : lpN qd12 (qd0 fuel) qd10 qd15 (k + 1) ⟨[(4, vN), (5, vN), qd4, (8, vL x0), (10, vN), (106, vN), (107, vI 0), (108, vI 0)], [], 0, none⟩ K = reducedF_s18 x0 (K (.exit 8) ⟨[(4, vN), (5, vN), qd4, (8, vL x0), (10, vN)], [], 0, none⟩) := by kernel_rfl
noncomputable def reducedF_l9 {R : Type} (fuel : Nat) (x0 : List Int) (k0 : Option R) : Nat → Option R
  | 0 => none
  | k + 1 =>
    (reducedF_s18 x0 (k0))
theorem reducedF_l9_eq (fuel : Nat) (x0 : List Int) (K : Ex → St → Option Out) : ∀ (k : Nat) , lpN qd12 (qd0 fuel) qd10 qd15 k ⟨[(4, vN), (5, vN), qd4, (8, vL x0), (10, vN), (106, vN), (107, vI 0), (108, vI 0)], [], 0, none⟩ K = reducedF_l9 fuel x0 (K (.exit 8) ⟨[(4, vN), (5, vN), qd4, (8, vL x0), (10, vN)], [], 0, none⟩) k 
  | 0 => rfl
  | k + 1 => by
    unfold reducedF_l9
    exact (reducedF_s18_eq fuel k K x0)
noncomputable def reducedF_s19 {R : Type} (x0 : List Int) (c0 : List Int → Bool → Option R) : Option R :=
  bnd (upTo ((x0.length : Nat) : Int) 0) fun j0 =>
  c0 x0 true
theorem reducedF_s19_eq (fuel : Nat)  (x0 : List Int) : (kont (qd0 fuel) qd5 [1, 1, 1, 1, 1, 0, 1, 0] 112 (endK Tryd.prog 0 0 81)) (.exit 8) ⟨[(4, vN), (5, vN), qd4, (8, vL x0), (10, vN)], [], 0, none⟩ = reducedF_s19 x0 (fun a0 a1 => some (.tup [vN, vL a0, vB a1], [])) := by kernel_rfl
noncomputable def reducedF_s17 {R : Type} (x0 : List Int) (c0 : Option R) : Option R :=
  bnd (upTo ((x0.length : Nat) : Int) 0) fun j0 =>
  c0
theorem reducedF_s17_eq (fuel : Nat)  (x0 : List Int) : (kont (qd0 fuel) qd5 [1, 1, 1, 1, 0, 1, 0] 112 (endK Tryd.prog 0 0 81)) (.exit 2) ⟨[(4, vN), (5, vN), qd4, (8, vL x0), (10, vN)], [], 0, none⟩ = reducedF_s17 x0 (lpN qd12 (qd0 fuel) qd10 qd15 fuel ⟨[(4, vN), (5, vN), qd4, (8, vL x0), (10, vN), (106, vN), (107, vI 0), (108, vI 0)], [], 0, none⟩ (kont (qd0 fuel) qd5 [1, 1, 1, 1, 1, 0, 1, 0] 112 (endK Tryd.prog 0 0 81))) := by kernel_rfl
noncomputable def reducedF_s14 {R : Type} (x0 : List Int) (c0 : Int → Option R) : Option R :=
  c0 ((x0.length : Nat) : Int)
theorem reducedF_s14_eq (fuel : Nat)  (x0 : List Int) : (kont (qd0 fuel) qd5 [1, 1, 1, 0, 1, 0] 112 (endK Tryd.prog 0 0 81)) (.exit 0) ⟨[(4, vN), (5, vN), qd4, (8, vL x0), (10, vN)], [], 0, none⟩ = reducedF_s14 x0 (fun a0 => lpN qd1 (qd0 fuel) qd6 qd7 fuel ⟨[(4, vN), (5, vN), qd4, (8, vL x0), (10, vN), (45, vL x0), (46, vI a0), (47, vI 0)], [], 0, none⟩ (kont (qd0 fuel) qd5 [1, 1, 1, 1, 0, 1, 0] 112 (endK Tryd.prog 0 0 81))) := by kernel_rfl
noncomputable def reducedF_s1 {R : Type} (m : List (Int × List Int)) (z : Int) (l : List ByteArray) (c0 : List Int → Int → Option R) : Option R :=
  grd (okM m && decide (m.length ≤ 1000)) <|
  c0 (echP z m) ((m.length : Nat) : Int)
theorem reducedF_s1_eq (fuel : Nat)  (m : List (Int × List Int)) (z : Int) (l : List ByteArray) : callN Tryd.prog mode19 T_bsmay fuel 81 [.agg [vI z, vR m], .ls l] [] = reducedF_s1 m z l (fun a0 a1 => lpN qd13 (qd0 fuel) qd2 qd14 fuel ⟨[(1, .ls l), (4, vN), (5, vN), qd4, (8, vL a0), (10, vN), (28, vR m), (29, vI a1), (30, vI 0)], [], 0, none⟩ (kont (qd0 fuel) qd5 [1, 1, 1, 0, 1, 0] 112 (endK Tryd.prog 0 0 81))) := by kernel_rfl
noncomputable def reducedF {R : Type} (fuel : Nat) (z : Int) (m : List (Int × List Int)) (l : List ByteArray) (r0 : Bool → Option R) (r1 : (List ((Int × List Int) × ByteArray)) → List Int → Bool → Option R) (r2 : List Int → Bool → Option R) : Option R :=
  (reducedF_s1 m z l (fun a0 a1 => (reducedF_l1 fuel l m (fun x0 x1 x2 => (reducedF_s4 x0 x2 x1 (fun a2 a3 a4 => (reducedF_l3 fuel x0 x1 (fun x3 => (reducedF_s10 x0 x1 x3 (fun a5 a6 a7 a8 => (reducedF_l6 fuel x0 x1 x3 ((reducedF_s12 x0 x1 x3 (fun a9 => r0 a9))) ((reducedF_s13 x0 x1 x3 (fun a10 a11 a12 => r1 a10 a11 a12))) fuel a5 a6 a7 a8)))) fuel a2 a3 a4)))) (fun x4 => (reducedF_s14 x4 (fun a13 => (reducedF_l7 fuel x4 ((reducedF_s17 x4 ((reducedF_l9 fuel x4 ((reducedF_s19 x4 (fun a14 a15 => r2 a14 a15))) fuel)))) fuel a13)))) fuel a0 a1)))
theorem reducedF_eq (fuel : Nat) (z : Int) (m : List (Int × List Int)) (l : List ByteArray) : callN Tryd.prog mode19 T_bsmay fuel 81 [.agg [.s (.int .i64 z), .lt (.pair (.int .i64) (.sl (.int .u64))) m], .ls l] [] = reducedF fuel z m l (fun z0 => some (.tup [.s (.slice none 0 0), .s (.slice none 0 0), .s (.bool z0)], [])) (fun z0 z1 z2 => some (.tup [.lt (.pair (.pair (.int .i64) (.sl (.int .u64))) .str) z0, .li .i64 z1, .s (.bool z2)], [])) (fun z0 z1 => some (.tup [.s (.slice none 0 0), .li .i64 z0, .s (.bool z1)], [])) := by
  unfold reducedF
  exact (reducedF_s1_eq fuel  m z l).trans (congr (Eq.refl (reducedF_s1 (R := Out) m z l)) (funext fun a0 => funext fun a1 => (reducedF_l1_eq fuel l m (kont (qd0 fuel) qd5 [1, 1, 1, 0, 1, 0] 112 (endK Tryd.prog 0 0 81)) fuel a0 a1).trans (congrFun (congrFun (congrFun (congr (congr (Eq.refl (reducedF_l1 (R := Out) fuel l m)) (funext fun x0 => funext fun x1 => funext fun x2 => (reducedF_s4_eq fuel  x0 x2 x1).trans (congr (Eq.refl (reducedF_s4 (R := Out) x0 x2 x1)) (funext fun a2 => funext fun a3 => funext fun a4 => (reducedF_l3_eq fuel x0 x1 (kont (qd0 fuel) qd5 [1, 1, 1, 1, 0, 1, 0] 112 (endK Tryd.prog 0 0 81)) fuel a2 a3 a4).trans (congrFun (congrFun (congrFun (congrFun (congr (Eq.refl (reducedF_l3 (R := Out) fuel x0 x1)) (funext fun x3 => (reducedF_s10_eq fuel  x0 x1 x3).trans (congr (Eq.refl (reducedF_s10 (R := Out) x0 x1 x3)) (funext fun a5 => funext fun a6 => funext fun a7 => funext fun a8 => (reducedF_l6_eq fuel x0 x1 x3 (kont (qd0 fuel) qd5 [1, 1, 1, 1, 1, 0, 1, 0] 112 (endK Tryd.prog 0 0 81)) fuel a5 a6 a7 a8).trans (congrFun (congrFun (congrFun (congrFun (congrFun (congr (congr (Eq.refl (reducedF_l6 (R := Out) fuel x0 x1 x3)) ((reducedF_s12_eq fuel  x0 x1 x3))) ((reducedF_s13_eq fuel  x0 x1 x3))) fuel) a5) a6) a7) a8))))) fuel) a2) a3) a4))))) (funext fun x4 => (reducedF_s14_eq fuel  x4).trans (congr (Eq.refl (reducedF_s14 (R := Out) x4)) (funext fun a9 => (reducedF_l7_eq fuel x4 (kont (qd0 fuel) qd5 [1, 1, 1, 1, 0, 1, 0] 112 (endK Tryd.prog 0 0 81)) fuel a9).trans (congrFun (congrFun (congr (Eq.refl (reducedF_l7 (R := Out) fuel x4)) ((reducedF_s17_eq fuel  x4).trans (congr (Eq.refl (reducedF_s17 (R := Out) x4)) ((reducedF_l9_eq fuel x4 (kont (qd0 fuel) qd5 [1, 1, 1, 1, 1, 0, 1, 0] 112 (endK Tryd.prog 0 0 81)) fuel ).trans (congrFun (congr (Eq.refl (reducedF_l9 (R := Out) fuel x4)) ((reducedF_s19_eq fuel  x4))) fuel))))) fuel) a9))))) fuel) a0) a1)))
theorem reduced_zip {R : Type} (fuel : Nat) (l : List ByteArray) (w1 : List Int) (m : List Rw) (hm : m.length ≤ 64) (hl : l.length = m.length) (k0 : Nat → List Eqn → Option R) : ∀ (k j : Nat) (acc : List Eqn), j ≤ m.length → m.length < j + k → acc.length ≤ j →
    reducedF_l2 fuel l w1 m (m.length : Int) k0 k acc.length (j : Int) acc = k0 (acc ++ (m.drop j).zip (l.drop j)).length (acc ++ (m.drop j).zip (l.drop j))
  | 0, j, acc, h1, h2, _ => by omega
  | k + 1, j, acc, h1, h2, ha => by
    unfold reducedF_l2 reducedF_s3
    rw [br_if]
    by_cases hc : j < m.length
    · have hcl : j < l.length := by omega
      rw [if_pos (by simpa using hc), bnd_of ((ix_nat m j).trans (List.getElem?_eq_getElem hc)), bnd_of ((ix_nat l j).trans (List.getElem?_eq_getElem hcl)), grd_of (beq_self _), grd_of (okN_of (by omega) (by omega)), wrap_i64 (by omega) (by omega), show (j : Int) + 1 = ((j + 1 : Nat) : Int) by omega, List.drop_eq_getElem_cons hc, List.drop_eq_getElem_cons hcl, List.zip_cons_cons]
      have := reduced_zip fuel l w1 m hm hl k0 k (j + 1) (acc ++ [(m[j], l[j])]) (by omega) (by omega) (by simp; omega)
      rw [List.append_assoc] at this
      exact this
    · rw [if_neg (by simpa using hc), List.drop_eq_nil_of_le (by omega)]
      simp
theorem reduced_fst {R : Type} (fuel : Nat) (l : List ByteArray) (w1 : List Int) (m : List Rw) (hm : m.length ≤ 64) (hm1 : 1 ≤ m.length) (hl : l.length = m.length) (k0 : List Int → Nat → List Eqn → Option R) (k1 : List Int → Option R) (k : Nat) (hk : m.length + 1 < k) :
    reducedF_l1 fuel l m k0 k1 k w1 (m.length : Int) = k0 w1 (m.zip l).length (m.zip l) := by
  cases k with
  | zero => omega
  | succ k =>
    unfold reducedF_l1 reducedF_s2
    dsimp only
    have e0 : ix m 0 = some m[0] := (ix_nat m 0).trans (List.getElem?_eq_getElem (by omega))
    have e1 : ix l 0 = some l[0] := (ix_nat l 0).trans (List.getElem?_eq_getElem (by omega))
    rw [br_if, if_pos (by simp; omega), bnd_of e0, bnd_of e1]
    have ho := reduced_zip (R := R) fuel l w1 m hm hl (fun (x41 : Nat) (x42 : List Eqn) => k0 w1 x41 x42) k 1 [(m[0], l[0])] (by omega) (by omega) (by simp)
    have hy1 : [(m[0], l[0])] ++ (m.drop 1).zip (l.drop 1) = m.zip l := by
      cases m with
      | nil => simp at hm1
      | cons a t => cases l with
        | nil => simp at hl
        | cons b u => rfl
    rw [hy1] at ho
    exact ho
theorem reduced_find {R : Type} (fuel : Nat) (z : Int) (h0 : 0 ≤ z) (h1 : z ≤ 64) (K : Nat) (x46 : List Int) (L : Nat) (hL : L ≤ 64) (w179 : Int) (i : Nat) (hi : (i : Int) < z) (w178 : Int) (us : List Nat) (hu : us.length = L) (k0 : Int → Bool → Nat → Int → List Int → ByteArray → Bool → Bool → Option R) : ∀ (c k j : Nat), c < k → (∃ s, j ≤ s ∧ s < j + c ∧ s < L ∧ (us.getD s 0).testBit i = true) → ∃ s, j ≤ s ∧ s < L ∧ (us.getD s 0).testBit i = true ∧ ∀ w, ∃ y1 y2 y3 y4 y5 y6, reducedF_l4 fuel x46 L w179 (i : Int) w178 (us.map (eqU z K)) k0 k (j : Int) w = k0 (s : Int) w y1 y2 y3 y4 y5 y6
  | 0, k, j, hk, h => by obtain ⟨s, _, _, _⟩ := h; omega
  | c + 1, 0, j, hk, h => by omega
  | c + 1, k + 1, j, hk, h => by
    have hj : j < L := by obtain ⟨s, _, _, _⟩ := h; omega
    have eb : below (j : Int) L = some j := by rw [below_of (by omega) (by omega)]; rfl
    have eg := eqs_get (z := z) (k := K) (us := us) (t := j) (by omega)
    cases hx : (us.getD j 0).testBit i with
    | true =>
      refine ⟨j, Nat.le_refl _, hj, hx, fun w => ?_⟩
      unfold reducedF_l4 reducedF_s6
      rw [bnd_of eb, bnd_of eg, grd_of (eqU_ok z K _), br_if, if_neg (by rw [eqU_has h0 h1 K _ hi, hx]; decide)]
      exact ⟨_, _, _, _, _, _, rfl⟩
    | false =>
      obtain ⟨s0, a1, a2, a3, a4⟩ := h
      have hne : s0 ≠ j := fun e => by rw [e, hx] at a4; cases a4
      obtain ⟨s, b1, b2, b3, b4⟩ := reduced_find fuel z h0 h1 K x46 L hL w179 i hi w178 us hu k0 c k (j + 1) (by omega) ⟨s0, by omega, by omega, a3, a4⟩
      refine ⟨s, by omega, b2, b3, fun w => ?_⟩
      unfold reducedF_l4 reducedF_s6
      rw [bnd_of eb, bnd_of eg, grd_of (eqU_ok z K _), br_if, if_pos (by rw [eqU_has h0 h1 K _ hi, hx]; decide), wrap_i64 (by omega) (by omega), show (j : Int) + 1 = ((j + 1 : Nat) : Int) by omega]
      exact b4 w
theorem reduced_in {R : Type} (fuel : Nat) (z : Int) (h0 : 0 ≤ z) (h1 : z ≤ 64) (K : Nat) (hK : K ≤ 64) (i : Nat) (hi : (i : Int) < z) (x46 : List Int) (x342 : Int) (w178 : Int) (x343 : Bool) (x344 : Nat) (x345 : Int) (x346 : List Int) (x347 : ByteArray) (x348 : Bool) (x349 : Bool) (d : Nat) (L : Nat) (hL : L ≤ 64) (k0 : Nat → Int → List Int → ByteArray → Nat → Int → List Int → ByteArray → Nat → Nat → Nat → Int → List Int → ByteArray → Int → Int → Bool → List Eqn → Option R) (o : Nat) (ho : o < 2 ^ (z.toNat + 8 * K)) : ∀ (c k j : Nat) (vs : List Nat), j + c = L → vs.length = L → c < k → (∀ t, t < vs.length → vs.getD t 0 < 2 ^ (z.toNat + 8 * K)) → ∃ ws, Elim vs i d o j c ws ∧ ∀ (y1 : Nat) (y2 : Int) (y3 : List Int) (y4 : ByteArray) (y5 : Nat) (y6 : Int) (y7 : List Int) (y8 : ByteArray) (y9 : Nat) (y10 : Nat) (y11 : Nat), reducedF_l5 fuel x46 L (d : Int) (i : Int) x342 w178 x343 x344 x345 x346 x347 x348 x349 k0 k y1 y2 y3 y4 y5 y6 y7 y8 y9 y10 y11 (eqU z K o).1.1 (eqU z K o).1.2 (eqU z K o).2 (L : Int) (j : Int) (vs.map (eqU z K)) = k0 y1 y2 y3 y4 y5 y6 y7 y8 y9 y10 y11 (eqU z K o).1.1 (eqU z K o).1.2 (eqU z K o).2 (L : Int) (L : Int) (decide ((L : Int) < (L : Int))) (ws.map (eqU z K))
  | 0, 0, j, vs, hj, hl, hk, hv => by omega
  | 0, k + 1, j, vs, hj, hl, hk, hv => by
    obtain rfl : j = L := by omega
    refine ⟨vs, ⟨rfl, fun t ht => by rw [if_neg (by omega)]⟩, fun y1 y2 y3 y4 y5 y6 y7 y8 y9 y10 y11 => ?_⟩
    unfold reducedF_l5 reducedF_s8
    rw [br_if, if_neg (by simp)]
  | c + 1, 0, j, vs, hj, hl, hk, hv => by omega
  | c + 1, k + 1, j, vs, hj, hl, hk, hv => by
    have hjl : j < vs.length := by omega
    have eb : below (j : Int) L = some j := by rw [below_of (by omega) (by omega)]; rfl
    have eg := eqs_get (z := z) (k := K) hjl
    have hvj := hv j hjl
    by_cases hjd : j = d
    · obtain ⟨ws, ⟨hl2, hw⟩, he⟩ := reduced_in fuel z h0 h1 K hK i hi x46 x342 w178 x343 x344 x345 x346 x347 x348 x349 d L hL k0 o ho c k (j + 1) vs (by omega) hl (by omega) hv
      refine ⟨ws, ⟨hl2, fun t ht => ?_⟩, fun y1 y2 y3 y4 y5 y6 y7 y8 y9 y10 y11 => ?_⟩
      · rw [hw t ht]
        by_cases htj : t = j
        · rw [if_neg (by omega), if_neg (fun h => h.2.2.1 (by omega))]
        · by_cases hc : j ≤ t ∧ t < j + (c + 1) ∧ t ≠ d ∧ (vs.getD t 0).testBit i = true
          · rw [if_pos hc, if_pos ⟨by omega, by omega, hc.2.2⟩]
          · rw [if_neg hc, if_neg (fun h => hc ⟨by omega, by omega, h.2.2⟩)]
      · unfold reducedF_l5 reducedF_s8
        rw [br_if, if_pos (by simp; omega), bnd_of eb, bnd_of eg, br_if, if_neg (by simp [hjd]), wrap_i64 (by omega) (by omega), show (j : Int) + 1 = ((j + 1 : Nat) : Int) by omega]
        exact he y1 y2 y3 y4 y5 y6 y7 y8 y9 y10 y11
    · cases hx : (vs.getD j 0).testBit i with
      | false =>
        obtain ⟨ws, ⟨hl2, hw⟩, he⟩ := reduced_in fuel z h0 h1 K hK i hi x46 x342 w178 x343 x344 x345 x346 x347 x348 x349 d L hL k0 o ho c k (j + 1) vs (by omega) hl (by omega) hv
        refine ⟨ws, ⟨hl2, fun t ht => ?_⟩, fun y1 y2 y3 y4 y5 y6 y7 y8 y9 y10 y11 => ?_⟩
        · rw [hw t ht]
          by_cases htj : t = j
          · rw [if_neg (by omega), if_neg (fun h => by rw [htj, hx] at h; exact absurd h.2.2.2 (by decide))]
          · by_cases hc : j ≤ t ∧ t < j + (c + 1) ∧ t ≠ d ∧ (vs.getD t 0).testBit i = true
            · rw [if_pos hc, if_pos ⟨by omega, by omega, hc.2.2⟩]
            · rw [if_neg hc, if_neg (fun h => hc ⟨by omega, by omega, h.2.2⟩)]
        · unfold reducedF_l5 reducedF_s8
          rw [br_if, if_pos (by simp; omega), bnd_of eb, bnd_of eg, br_if, if_pos (by simp; omega), grd_of (eqU_ok z K _), br_if, if_neg (by rw [eqU_has h0 h1 K _ hi, hx]; decide), wrap_i64 (by omega) (by omega), show (j : Int) + 1 = ((j + 1 : Nat) : Int) by omega]
          exact he y1 y2 y3 y4 y5 y6 y7 y8 y9 y10 y11
      | true =>
        have hxl : vs.getD j 0 ^^^ o < 2 ^ (z.toNat + 8 * K) := Nat.xor_lt_two_pow hvj ho
        obtain ⟨ws, ⟨hl2, hw⟩, he⟩ := reduced_in fuel z h0 h1 K hK i hi x46 x342 w178 x343 x344 x345 x346 x347 x348 x349 d L hL k0 o ho c k (j + 1) (vs.set j (vs.getD j 0 ^^^ o)) (by omega) (by rw [List.length_set]; exact hl) (by omega) (fun t ht => by
          rw [List.length_set] at ht
          rw [set_getD _ _ ht]
          by_cases e : j = t
          · rw [if_pos e]; exact hxl
          · rw [if_neg e]; exact hv t ht)
        rw [List.length_set] at hl2 hw
        refine ⟨ws, ⟨hl2, fun t ht => ?_⟩, fun y1 y2 y3 y4 y5 y6 y7 y8 y9 y10 y11 => ?_⟩
        · rw [hw t ht, set_getD _ _ ht]
          by_cases htj : j = t
          · subst htj
            rw [if_pos rfl, if_neg (by omega), if_pos ⟨Nat.le_refl _, by omega, hjd, hx⟩]
          · rw [if_neg htj]
            by_cases hc : j ≤ t ∧ t < j + (c + 1) ∧ t ≠ d ∧ (vs.getD t 0).testBit i = true
            · rw [if_pos hc, if_pos ⟨by omega, by omega, hc.2.2⟩]
            · rw [if_neg hc, if_neg (fun h => hc ⟨by omega, by omega, h.2.2⟩)]
        · unfold reducedF_l5 reducedF_s8
          rw [br_if, if_pos (by simp; omega), bnd_of eb, bnd_of eg, br_if, if_pos (by simp; omega), grd_of (eqU_ok z K _), br_if, if_pos (by rw [eqU_has h0 h1 K _ hi, hx]), grd_of (by rw [eqU_ok z K _, eqU_ok z K _]; rfl), bnd_of eb, bnd_of eg, wrap_i64 (by omega) (by omega), show (j : Int) + 1 = ((j + 1 : Nat) : Int) by omega, eqU_xor h0 h1 hK hvj ho, eqs_set]
          exact he y1 y2 y3 y4 y5 y6 y7 y8 y9 y10 y11

theorem reduced_out {R : Type} (fuel : Nat) (hf : 70 ≤ fuel) (z : Int) (h0 : 0 ≤ z) (h1 : z ≤ 64) (K : Nat) (hK : K ≤ 64) (us0 : List Nat) (hL : us0.length ≤ 64) (ps0 : List Nat) (hps : Lin.places (red (us0.map (lo z.toNat))) = ps0) (hpz : ∀ p, p ∈ ps0 → p < z.toNat) (hpl : ps0.length ≤ 64) (k0 : List Eqn → Option R) : ∀ (ps done : List Nat) (k i : Nat) (us : List Nat), done ++ ps = ps0 → ps.length < k → i ≤ z.toNat → (∀ p, p ∈ done → p < i) → (∀ p, p ∈ ps → i ≤ p) → Lin.Inv (z.toNat + 8 * K) us0 i us done.length done →
    ∃ us', Lin.Inv (z.toNat + 8 * K) us0 z.toNat us' ps0.length ps0 ∧ reducedF_l3 fuel (ps0.map fun (q : Nat) => (q : Int)) us0.length k0 k (ps0.length : Int) (done.length : Int) (us.map (eqU z K)) = k0 (us'.map (eqU z K))
  | [], done, 0, i, us, he, hk, hi, hd, hp, h => by simp at hk
  | [], done, k + 1, i, us, he, hk, hi, hd, hp, h => by
    rw [List.append_nil] at he
    subst he
    have hN := h.pass (N := z.toNat) (z.toNat - i) i (by omega) fun j hj _ x hx e => by
      have : x.1 ∈ Lin.places (red (us0.map (lo z.toNat))) := List.mem_map.2 ⟨x, hx, rfl⟩
      rw [hps] at this
      have := hd _ this
      omega
    rw [show i + (z.toNat - i) = z.toNat by omega] at hN
    refine ⟨us, hN, ?_⟩
    unfold reducedF_l3 reducedF_s5
    rw [br_if, if_neg (by simp)]
  | p :: ps, done, 0, i, us, he, hk, hi, hd, hp, h => by simp at hk
  | p :: ps, done, k + 1, i, us, he, hk, hi, hd, hp, h => by
    have hinc : ps0.Pairwise (· < ·) := by rw [← hps, List.pairwise_map]; exact (red_is _).1.inc
    have hpm : p ∈ ps0 := by rw [← he]; simp
    have hpN := hpz p hpm
    have hip := hp p List.mem_cons_self
    have hrest : ∀ q, q ∈ ps → p < q := by
      rw [← he, List.pairwise_append] at hinc
      exact (List.pairwise_cons.1 hinc.2.1).1
    have hN := h.pass (N := z.toNat) (p - i) i (by omega) fun j hj hj2 x hx e => by
      have : x.1 ∈ Lin.places (red (us0.map (lo z.toNat))) := List.mem_map.2 ⟨x, hx, rfl⟩
      rw [hps, ← he, List.mem_append, List.mem_cons] at this
      rcases this with h1 | h1 | h1
      · have := hd _ h1; omega
      · omega
      · have := hrest _ h1; omega
    rw [show i + (p - i) = p by omega] at hN
    have hin : (p : Int) < z := by omega
    have hdl : done.length < ps0.length := by rw [← he]; simp
    have hall := hN.all
    have hle := hN.le
    have hv := hN.lt
    obtain ⟨x, hx, hxp⟩ : ∃ x, x ∈ red (us0.map (lo z.toNat)) ∧ x.1 = p := by
      rw [← hps] at hpm
      obtain ⟨x, hx, e⟩ := List.mem_map.1 hpm
      exact ⟨x, hx, e⟩
    obtain ⟨s0, b1, b2, b3⟩ := (hN.has (N := z.toNat) (i := p) hpN).1 ⟨x, hx, hxp⟩
    have eix : ix (ps0.map fun (q : Nat) => (q : Int)) (done.length : Int) = some (p : Int) := by
      rw [ix_nat, List.getElem?_map, ← he, List.getElem?_append_right (Nat.le_refl _), Nat.sub_self]; rfl
    unfold reducedF_l3 reducedF_s5
    rw [br_if, if_pos (by simp; omega), bnd_of eix]
    have hfind := fun k0 => reduced_find (R := R) fuel z h0 h1 K (ps0.map fun (q : Nat) => (q : Int)) us0.length hL (done.length : Int) p hin (ps0.length : Int) us (by omega) k0 (us.length - done.length) fuel done.length (by omega) ⟨s0, b1, by omega, by omega, b3⟩
    obtain ⟨s, c1, c2, c3, c4⟩ := hfind (fun (x342 : Int) (x343 : Bool) (x344 : Nat) (x345 : Int) (x346 : List Int) (x347 : ByteArray) (x348 : Bool) (x349 : Bool) => (reducedF_s7 x342 us0.length (us.map (eqU z K)) (done.length : Int) (ps0.map fun (q : Nat) => (q : Int)) (p : Int) (ps0.length : Int) x343 x344 x345 x346 x347 x348 x349 (fun (a492 : Nat) (a493 : Int) (a494 : List Int) (a495 : ByteArray) (a496 : Nat) (a497 : Int) (a498 : List Int) (a499 : ByteArray) (a500 : Nat) (a501 : Nat) (a502 : Nat) (a503 : Int) (a504 : List Int) (a505 : ByteArray) (a506 : Int) (a507 : Int) (a508 : List Eqn) => (reducedF_l5 fuel (ps0.map fun (q : Nat) => (q : Int)) us0.length (done.length : Int) (p : Int) x342 (ps0.length : Int) x343 x344 x345 x346 x347 x348 x349 (fun (x509 : Nat) (x510 : Int) (x511 : List Int) (x512 : ByteArray) (x513 : Nat) (x514 : Int) (x515 : List Int) (x516 : ByteArray) (x517 : Nat) (x518 : Nat) (x519 : Nat) (x520 : Int) (x521 : List Int) (x522 : ByteArray) (x523 : Int) (x524 : Int) (x525 : Bool) (x526 : List Eqn) => (reducedF_s9 (ps0.length : Int) (done.length : Int) x526 (ps0.map fun (q : Nat) => (q : Int)) us0.length (p : Int) x342 x343 x344 x345 x346 x347 x348 x349 x509 x510 x511 x512 x513 x514 x515 x516 x517 x518 x519 x520 x521 x522 x523 x524 x525 (fun (a527 : Int) (a528 : Int) (a529 : List Eqn) => ( reducedF_l3 fuel (ps0.map fun (q : Nat) => (q : Int)) us0.length k0 k a527 a528 a529 )))) fuel a492 a493 a494 a495 a496 a497 a498 a499 a500 a501 a502 a503 a504 a505 a506 a507 a508))))
    obtain ⟨y1, y2, y3, y4, y5, y6, c5⟩ := c4 (decide ((done.length : Int) < (ps0.length : Int)))
    have hd' : done.length < us.length := by omega
    have hs' : s < us.length := by omega
    have e1 : below (s : Int) us0.length = some s := by rw [below_of (by omega) (by omega)]; rfl
    have e2 : below (done.length : Int) us0.length = some done.length := by rw [below_of (by omega) (by omega)]; rfl
    have hso : (sw us done.length s).getD done.length 0 = us.getD s 0 := by
      rw [sw_get hd']
      by_cases e : s = done.length
      · rw [if_pos e, e]
      · rw [if_neg e, if_pos rfl]
    have hswl : ∀ t, t < (sw us done.length s).length → (sw us done.length s).getD t 0 < 2 ^ (z.toNat + 8 * K) := fun t ht => by
      rw [sw_len] at ht
      obtain ⟨c, hc, e, _⟩ := sw_from hd' hs' ht
      rw [e]; exact hv c hc
    have g1 := eqs_get (z := z) (k := K) hs'
    have g2 := eqs_get (z := z) (k := K) hd'
    have g3 : ((us.map (eqU z K)).set (0 + done.length) (eqU z K (us.getD s 0)))[0 + s]? = some (eqU z K ((us.set done.length (us.getD s 0)).getD s 0)) := by
      rw [eqs_set]; exact eqs_get (by rw [List.length_set]; exact hs')
    have g4 : (((us.map (eqU z K)).set (0 + done.length) (eqU z K (us.getD s 0))).set (0 + s) (eqU z K (us.getD done.length 0)))[0 + done.length]? = some (eqU z K (us.getD s 0)) := by
      rw [sw_eqs, eqs_get (by rw [sw_len]; exact hd'), hso]
    obtain ⟨ws, hE, hin5⟩ := reduced_in (R := R) fuel z h0 h1 K hK p hin (ps0.map fun (q : Nat) => (q : Int)) (s : Int) (ps0.length : Int) (decide ((done.length : Int) < (ps0.length : Int))) y1 y2 y3 y4 y5 y6 done.length us0.length hL
      (fun (x509 : Nat) (x510 : Int) (x511 : List Int) (x512 : ByteArray) (x513 : Nat) (x514 : Int) (x515 : List Int) (x516 : ByteArray) (x517 : Nat) (x518 : Nat) (x519 : Nat) (x520 : Int) (x521 : List Int) (x522 : ByteArray) (x523 : Int) (x524 : Int) (x525 : Bool) (x526 : List Eqn) => (reducedF_s9 (ps0.length : Int) (done.length : Int) x526 (ps0.map fun (q : Nat) => (q : Int)) us0.length (p : Int) (s : Int) (decide ((done.length : Int) < (ps0.length : Int))) y1 y2 y3 y4 y5 y6 x509 x510 x511 x512 x513 x514 x515 x516 x517 x518 x519 x520 x521 x522 x523 x524 x525 (fun (a527 : Int) (a528 : Int) (a529 : List Eqn) => ( reducedF_l3 fuel (ps0.map fun (q : Nat) => (q : Int)) us0.length k0 k a527 a528 a529 ))))
      (us.getD s 0) (hv s hs') us0.length fuel 0 (sw us done.length s) (by omega) (by rw [sw_len]; exact hall) (by omega) hswl
    have hE' : Elim (sw us done.length s) p done.length (us.getD s 0) 0 us.length ws := by rw [hall]; exact hE
    have hT := hN.take c1 hs' c3 hE'
    obtain ⟨us', f1, f2⟩ := reduced_out fuel hf z h0 h1 K hK us0 hL ps0 hps hpz hpl k0 ps (done ++ [p]) k (p + 1) ws (by rw [List.append_assoc]; exact he) (by simp at hk; omega) (by omega) (fun q hq => by
      rcases List.mem_append.1 hq with hq | hq
      · have := hd q hq; omega
      · rw [List.mem_singleton] at hq; omega) (fun q hq => hrest q hq) (by rw [List.length_append, List.length_singleton]; exact hT)
    refine ⟨us', f1, ?_⟩
    refine c5.trans ?_
    unfold reducedF_s7
    rw [bnd_of e1, bnd_of g1, bnd_of e2, bnd_of g2, bnd_of e2, bnd_of g2, bnd_of e1, bnd_of g3, bnd_of e2, bnd_of g4, sw_eqs]
    refine (hin5 _ _ _ _ _ _ _ _ _ _ _).trans ?_
    unfold reducedF_s9
    rw [wrap_i64 (by omega) (by omega), show (done.length : Int) + 1 = (((done ++ [p]).length : Nat) : Int) by rw [List.length_append, List.length_singleton]; omega]
    exact f2
theorem reduced_rest {R : Type} (fuel : Nat) (z : Int) (K : Nat) (hK : K ≤ 64) (x46 : List Int) (us : List Nat) (hL : us.length ≤ 64) (hu : ∀ t, t < us.length → us.getD t 0 < 2 ^ (z.toNat + 8 * K)) (d : Nat) (hd : d ≤ us.length) (hlo : ∀ b, d ≤ b → b < us.length → lo z.toNat (us.getD b 0) = 0) (k0 k1 : Option R) : ∀ (k j : Nat), d + j ≤ us.length → us.length < d + j + k →
    reducedF_l6 fuel x46 us.length (us.map (eqU z K)) k0 k1 k d (us.length - d) ((us.length - d : Nat) : Int) (j : Int) = @ite (Option R) (∀ b, d + j ≤ b → b < us.length → us.getD b 0 = 0) (Classical.propDecidable _) k1 k0
  | 0, j, h1, h2 => by omega
  | k + 1, j, h1, h2 => by
    unfold reducedF_l6 reducedF_s11
    rw [br_if]
    by_cases hc : d + j < us.length
    · have eb : below (j : Int) (us.length - d) = some j := by rw [below_of (by omega) (by omega)]; rfl
      have eg : (us.map (eqU z K))[d + j]? = some (eqU z K (us.getD (d + j) 0)) := by have := eqs_get (z := z) (k := K) hc; rwa [Nat.zero_add] at this
      have hsz : (eqU z K (us.getD (d + j) 0)).2.size = K := txt_byts_size _ _
      have hn : nought (eqU z K (us.getD (d + j) 0)).2 = true ↔ us.getD (d + j) 0 = 0 := by
        refine (nought_byts (hi_lt (hu _ hc))).trans ⟨fun h => ?_, fun h => by rw [h]; unfold hi; simp⟩
        have := aug_lohi z.toNat (us.getD (d + j) 0)
        rw [h, hlo _ (by omega) hc] at this
        rw [← this]; unfold aug; simp
      rw [if_pos (by simp; omega), bnd_of eb, bnd_of eg, grd_of (by rw [hsz]; simp; omega), br_if, wrap_i64 (by omega) (by omega), show (j : Int) + 1 = ((j + 1 : Nat) : Int) by omega]
      dsimp only
      rw [reduced_rest fuel z K hK x46 us hL hu d hd hlo k0 k1 k (j + 1) (by omega) (by omega)]
      by_cases h : us.getD (d + j) 0 = 0
      · rw [if_neg (by rw [hn.2 h]; decide)]
        by_cases g : ∀ b, d + (j + 1) ≤ b → b < us.length → us.getD b 0 = 0
        · rw [if_pos g, if_pos fun b hb hl => by
            rcases Nat.eq_or_lt_of_le hb with rfl | hb
            · exact h
            · exact g b (by omega) hl]
        · rw [if_neg g, if_neg fun g' => g fun b hb hl => g' b (by omega) hl]
      · rw [if_pos (by rw [Bool.eq_false_iff.2 (fun g => h (hn.1 g))]; decide), if_neg fun g => h (g _ (Nat.le_refl _) hc)]
    · rw [if_neg (by simp; omega), if_pos fun b hb hl => by omega]
theorem reduced_fact (z : Int) (m : List (Int × List Int)) (l : List ByteArray) (hg : (rdOk z m l) = true) : Fact Tryd.prog noG 81 [.agg [.s (.int .i64 z), .lt (.pair (.int .i64) (.sl (.int .u64))) m], .ls l] [] (.tup [.lt (.pair (.pair (.int .i64) (.sl (.int .u64))) .str) ((rdL z m l) : List ((Int × List Int) × ByteArray)), .li .i64 (rdP z m l), .s (.bool (fitB z m l))], []) := by
  obtain ⟨hok, hm, hl, hb⟩ := rdOk_iff.1 hg
  by_cases hm0 : m.length = 0
  · have hmn := List.eq_nil_of_length_eq_zero hm0
    have hln : l = [] := List.eq_nil_of_length_eq_zero (by omega)
    subst hmn
    subst hln
    have ea : augs z [] [] = [] := rfl
    have hf : fitB z [] [] = true := fit_iff.2 fun u hu _ => Lin.Sp.nil (by rw [← ea]; exact hu)
    have eP := (ech_nil z).2.1
    have eL : rdL z [] [] = [] := by rw [rdL_eq]; unfold rdLI; rw [if_pos hf, ea, red_nil_eq]; rfl
    have eQ : rdP z [] [] = [] := by rw [rdP_eq]; unfold rdPI; rw [if_pos hf, eP]
    rw [eL, eQ, hf]
    refine Fact.out (v := .tup [.s (.slice none 0 0), .li .i64 [], .s (.bool true)]) (bs' := []) ?_ (fun _ _ _ x h => RV_tup_two (fun _ h => RVs_two (fun _ h => RV_nil_sl (s := .pair (.pair (.int .i64) (.sl (.int .u64))) .str) h) (fun _ h => h) h) h)
    refine callN_fact hN hM T_bsmay_ok (n := 2) (mode := mode19) ?_
    rw [reducedF_eq]
    unfold reducedF reducedF_s1
    rw [grd_of (by rw [hok]; rfl), eP]
    rfl
  have hm1 : 1 ≤ m.length := by omega
  obtain ⟨⟨n0, n1⟩, hx, hrows⟩ := mrt_iff.1 hm
  obtain ⟨⟨b0, b1⟩, b2, b3⟩ := bok_iff.1 hb
  obtain ⟨z1, z2, z3⟩ := zip_eqs (z := z) (k := szL l) (m := m) (l := l) (fun r hr => ⟨okM_iff.1 hok r hr, (hrows r hr).1, (hrows r hr).1 ▸ (hrows r hr).2⟩) (fun s hs => by have := b3 s hs; omega)
  have z4 := z2 hl.symm
  have zl := augs_len (z := z) hl
  have eP : echP z m = (Lin.places (red (vals m))).map fun (q : Nat) => (q : Int) := by rw [echP_eq]; unfold echPI; rw [if_pos hm]; rfl
  have hplt : ∀ p, p ∈ Lin.places (red (vals m)) → p < z.toNat := fun p hp => by
    obtain ⟨x, hx, rfl⟩ := List.mem_map.1 hp
    exact ((red_is (vals m)).lt (fun v hv => (mrt_vals hok hm).2.1.mem hv) hx).2
  have hpl : (Lin.places (red (vals m))).length ≤ 64 := by
    have := (red_is (vals m)).len (fun v hv => (mrt_vals hok hm).2.1.mem hv)
    unfold Lin.places
    rw [List.length_map]; omega
  obtain ⟨us, hI, hw⟩ := reduced_out (R := Out) 80 (by decide) z n0 n1 (szL l) (by omega) (augs z m l) (by omega) (Lin.places (red (vals m))) (by rw [z4]) hplt hpl (fun (x534 : List Eqn) => (reducedF_s10 (echP z m) (augs z m l).length x534 (fun (a553 : Nat) (a554 : Nat) (a555 : Int) (a556 : Int) => (reducedF_l6 80 (echP z m) (augs z m l).length x534 ((reducedF_s12 (echP z m) (augs z m l).length x534 (fun (a557 : Bool) => some (.tup [.s (.slice none 0 0), .s (.slice none 0 0), .s (.bool a557)], [])))) ((reducedF_s13 (echP z m) (augs z m l).length x534 (fun (a559 : List Eqn) (a560 : List Int) (a561 : Bool) => some (.tup [.lt (.pair (.pair (.int .i64) (.sl (.int .u64))) .str) a559, .li .i64 a560, .s (.bool a561)], [])))) 80 a553 a554 a555 a556)))) (Lin.places (red (vals m))) [] 80 0 (augs z m l) rfl (by omega) (Nat.zero_le _) (fun p hp => by simp at hp) (fun p _ => Nat.zero_le _) (Lin.Inv.start fun t ht => z3 _ (Lin.mem_getD.2 ⟨t, ht, rfl⟩))
  have hall := hI.all
  have hle := hI.le
  have hlo : ∀ b, (Lin.places (red (vals m))).length ≤ b → b < us.length → lo z.toNat (us.getD b 0) = 0 := fun b hb hbl => Lin.eq_zero_of_testBit fun i => by
    rw [lo_bit]
    by_cases hi : i < z.toNat
    · rw [hI.rest b i hb hbl hi, Bool.and_false]
    · rw [decide_eq_false hi]; rfl
  have hfit : fitB z m l = true ↔ ∀ b, (Lin.places (red (vals m))).length ≤ b → b < us.length → us.getD b 0 = 0 := fit_iff.trans (hI.fits (by omega))
  have hrest := fun k0 k1 => reduced_rest (R := Out) 80 z (szL l) (by omega) (echP z m) us (by omega) hI.lt (Lin.places (red (vals m))).length hle hlo k0 k1 80 0 (by omega) (by omega)
  rw [Nat.add_zero, show ((0 : Nat) : Int) = 0 from rfl] at hrest
  have hwalk : callN Tryd.prog mode19 T_bsmay 80 81 [.agg [.s (.int .i64 z), .lt (.pair (.int .i64) (.sl (.int .u64))) m], .ls l] [] = if fitB z m l = true then some (.tup [.lt (.pair (.pair (.int .i64) (.sl (.int .u64))) .str) ((us.take (Lin.places (red (vals m))).length).map (eqU z (szL l)) : List Eqn), .li .i64 (echP z m), .s (.bool true)], []) else some (.tup [.s (.slice none 0 0), .s (.slice none 0 0), .s (.bool false)], []) := by
    rw [reducedF_eq]
    unfold reducedF reducedF_s1
    rw [grd_of (by rw [hok]; simp; omega)]
    dsimp only
    rw [reduced_fst (R := Out) 80 l (echP z m) m hx hm1 hl _ _ 80 (by omega)]
    unfold reducedF_s4
    have zz : (m.zip l).length = (augs z m l).length := by rw [z1, List.length_map]
    rw [zz, z1]
    have eL : (echP z m).length = (Lin.places (red (vals m))).length := by rw [eP]; exact List.length_map _
    rw [← eP, ← eL] at hw
    refine hw.trans ?_
    unfold reducedF_s10
    rw [bnd_of (upTo_of (by omega) (by omega)), Int.toNat_natCast, Nat.zero_add, eL, ← hall]
    dsimp only
    rw [hrest]
    by_cases hf : fitB z m l = true
    · rw [if_pos hf, if_pos (hfit.1 hf)]
      unfold reducedF_s13
      rw [bnd_of (upTo_of (by omega) (by omega)), Int.toNat_natCast, Nat.sub_zero, List.drop_zero, eL, List.map_take]
    · rw [if_neg hf, if_neg (fun h => hf (hfit.2 h))]
      rfl
  by_cases hf : fitB z m l = true
  · rw [if_pos hf] at hwalk
    have hW := Inv.whole hI (by omega) (hfit.1 hf)
    obtain ⟨hr, hs, hp, hrow⟩ := hW.done
    have eL : rdL z m l = (us.take (Lin.places (red (vals m))).length).map (eqU z (szL l)) := by
      rw [rdL_eq]; unfold rdLI
      rw [if_pos hf, red_eq ⟨hr, hs⟩, hrow]
    have eQ : rdP z m l = echP z m := by rw [rdP_eq]; unfold rdPI; rw [if_pos hf]
    rw [eL, eQ, hf]
    exact callN_fact hN hM T_bsmay_ok hwalk
  · rw [if_neg hf] at hwalk
    have eL : rdL z m l = [] := by rw [rdL_eq]; unfold rdLI; rw [if_neg hf]
    have eQ : rdP z m l = [] := by rw [rdP_eq]; unfold rdPI; rw [if_neg hf]
    rw [eL, eQ, Bool.eq_false_iff.2 hf]
    exact (callN_fact hN hM T_bsmay_ok hwalk).out fun _ _ _ x h => RV_tup_two (fun _ h => RVs_two (fun _ h => RV_nil_sl (s := .pair (.pair (.int .i64) (.sl (.int .u64))) .str) h) (fun _ h => RVs_two (fun _ h => RV_nil_li h) (fun _ h => h) h) h) h
noncomputable def reduced_ent : List V → List Blk → Option (Bool × Out)
  | [.agg [.s (.int .i64 z), w0], w1], [] => (asSl (.pair (.int .i64) (.sl (.int .u64))) w0).bind fun m => (asSl .str w1).bind fun l => some ((rdOk z m l), (.tup [.lt (.pair (.pair (.int .i64) (.sl (.int .u64))) .str) ((rdL z m l) : List ((Int × List Int) × ByteArray)), .li .i64 (rdP z m l), .s (.bool (fitB z m l))], []))
  | _, _ => none
theorem reduced_ok : ∀ args bs out, reduced_ent args bs = some (true, out) → Fact Tryd.prog noG 81 args bs out := by
  intro args bs out h
  unfold reduced_ent at h
  split at h
  · rename_i z w0 w1
    obtain ⟨m, h_m, h⟩ := Option.bind_eq_some_iff.1 h
    obtain ⟨l, h_l, h⟩ := Option.bind_eq_some_iff.1 h
    simp only [Option.some.injEq, Prod.mk.injEq] at h
    obtain ⟨hg, rfl⟩ := h
    exact (reduced_fact z m l hg).args (fun _ _ _ => fun _ h => RVs_two (fun _ h => RV_agg_two (fun _ h => RVs_two (fun _ h => h) (fun _ h => RVs_two (fun _ h => RV_sl (s := (.pair (.int .i64) (.sl (.int .u64)))) h_m h) (fun _ h => h) h) h) h) (fun _ h => RVs_two (fun _ h => RV_ls h_l h) (fun _ h => h) h) h)
  · cases h
noncomputable def T_reduced : Tbl := Tbl.cons 81 reduced_ent T_bsmay
theorem T_reduced_ok : CallOk Tryd.prog noG T_reduced := cons_ok T_bsmay_ok reduced_ok
theorem bit_lt {z : Int} {v b : Nat} (hv : v < 2 ^ z.toNat) (h : v.testBit b = true) : b < z.toNat := by
  apply Nat.lt_of_not_le
  intro hle
  rw [Nat.testBit_lt_two_pow (Nat.lt_of_lt_of_le hv (Nat.pow_le_pow_right (by decide) hle))] at h
  cases h
theorem plc_pow (i : Nat) : ∀ k, (plc (2 ^ i) k).length = if i < k then 1 else 0
  | 0 => rfl
  | k + 1 => by
    rw [plc_succ, List.length_append, plc_pow i k, Nat.testBit_two_pow]
    by_cases h1 : i = k
    · subst h1; simp
    · by_cases h2 : i < k
      · rw [if_pos h2, if_neg (by simp [h1]), if_pos (by omega)]; rfl
      · rw [if_neg h2, if_neg (by simp [h1]), if_neg (by omega)]; rfl
theorem one_pow {n v p : Nat} (hv : v < 2 ^ n) (hf : v.testBit p = true) : (plc v n).length = 1 ↔ v = 2 ^ p := by
  have hp : p < n := by
    apply Nat.lt_of_not_le
    intro hle
    rw [Nat.testBit_lt_two_pow (Nat.lt_of_lt_of_le hv (Nat.pow_le_pow_right (by decide) hle))] at hf
    cases hf
  constructor
  · intro h
    obtain ⟨x, hx⟩ := List.length_eq_one_iff.1 h
    have h1 := (nat_mem_plc v n p).2 ⟨hp, hf⟩
    rw [hx, List.mem_singleton] at h1
    refine Nat.eq_of_testBit_eq fun b => ?_
    rw [Nat.testBit_two_pow]
    by_cases hb : p = b
    · subst hb; rw [hf]; simp
    · rw [decide_eq_false hb]
      cases hc : v.testBit b with
      | false => rfl
      | true =>
        have hbn : b < n := by
          apply Nat.lt_of_not_le
          intro hle
          rw [Nat.testBit_lt_two_pow (Nat.lt_of_lt_of_le hv (Nat.pow_le_pow_right (by decide) hle))] at hc
          cases hc
        have h2 := (nat_mem_plc v n b).2 ⟨hbn, hc⟩
        rw [hx, List.mem_singleton] at h2
        omega
  · rintro rfl
    rw [plc_pow, if_pos hp]
theorem told_cnt {z : Int} (h0 : 0 ≤ z) (h1 : z ≤ 64) (K : Nat) {x : Nat × Nat} (hf : (lo z.toNat x.2).testBit x.1 = true) : (((if rtS (eqU z K x.2).1.1 (eqU z K x.2).1.2 = true then (((plS (eqU z K x.2).1.2).length : Nat) : Int) else 0) : Int) == 1) = isTold z x := by
  obtain ⟨a, b, c⟩ := mr_rt h0 (by omega) (lo_lt z.toNat x.2)
  show (((if rtS z (words (nw z) (lo z.toNat x.2)) = true then (((plS (words (nw z) (lo z.toNat x.2))).length : Nat) : Int) else 0) : Int) == 1) = _
  have hp := one_pow (lo_lt z.toNat x.2) hf
  rw [if_pos b, pl_plc a b, c]
  unfold isTold
  by_cases h : lo z.toNat x.2 = 2 ^ x.1
  · rw [decide_eq_true h, hp.2 h]; rfl
  · rw [decide_eq_false h, beq_eq_false_iff_ne]
    exact fun g => h (hp.1 (by omega))
/-- Equations that can be so: each place is one of a column. -/
theorem fit_places {N : Nat} {us : List Nat} (hF : Fit N us) {x : Nat × Nat} (hx : x ∈ red us) : x.1 < N ∧ (lo N x.2).testBit x.1 = true := by
  have hR := red_is us
  have hf := hR.1.fst x hx
  have hN : x.1 < N := by
    apply Nat.lt_of_not_le
    intro hle
    have hz := hF x.2 ((hR.2 _).1 (.of_mem (List.mem_map.2 ⟨x, hx, rfl⟩))) (Lin.eq_zero_of_testBit fun i => by
      rw [lo_bit]
      by_cases hi : i < N
      · rw [hf.2 i (by omega), Bool.and_false]
      · rw [decide_eq_false hi]; rfl)
    have := hf.1
    rw [hz, Nat.zero_testBit] at this; cases this
  exact ⟨hN, by rw [lo_bit, hf.1, decide_eq_true hN]; rfl⟩
theorem fit_red {N : Nat} {us : List Nat} (hF : Fit N us) : red (us.map (lo N)) = (red us).map fun x => (x.1, lo N x.2) := by
  refine red_eq ⟨⟨fun x hx => ?_, ?_, fun x hx y hy hne => ?_⟩, fun w => ?_⟩
  · obtain ⟨y, hy, rfl⟩ := List.mem_map.1 hx
    have hf := (red_is us).1.fst y hy
    exact ⟨(fit_places hF hy).2, fun q hq => by rw [lo_bit, hf.2 q hq, Bool.and_false]⟩
  · rw [List.pairwise_map]; exact (red_is us).1.inc
  · obtain ⟨x', hx', rfl⟩ := List.mem_map.1 hx
    obtain ⟨y', hy', rfl⟩ := List.mem_map.1 hy
    show (lo N y'.2).testBit x'.1 = false
    rw [lo_bit, (red_is us).1.own x' hx' y' hy' hne, Bool.and_false]
  · have e : Lin.rows ((red us).map fun x => (x.1, lo N x.2)) = (Lin.rows (red us)).map (lo N) := by unfold Lin.rows; rw [List.map_map, List.map_map]; rfl
    rw [e]
    constructor
    · intro h
      obtain ⟨u, hu, rfl⟩ := Sp.up h
      exact Sp.lo (((red_is us).2 u).1 hu)
    · intro h
      obtain ⟨u, hu, rfl⟩ := Sp.up h
      exact Sp.lo (((red_is us).2 u).2 hu)
theorem bmay_iff {z : Int} {m : List Rw} {n : Int} {l : List ByteArray} : bmayE z m n l = 0 ↔ mrt z m = true ∧ bok n l = true ∧ l.length = m.length := by
  rw [bmayE_eq]; unfold bmayI
  by_cases hm : mrt z m = true
  · by_cases hb : bok n l = true ∧ l.length = m.length
    · rw [if_pos hm, if_pos hb]; simp [hm, hb]
    · rw [if_pos hm, if_neg hb]; simp; intro _ h1 h2; exact hb ⟨h1, h2⟩
  · rw [if_neg hm]; simp [hm]
theorem szL_of {n : Int} {l : List ByteArray} (hb : bok n l = true) (hl : 1 ≤ l.length) : (szL l : Int) = n := by
  obtain ⟨_, _, h⟩ := bok_iff.1 hb
  cases l with
  | nil => simp at hl
  | cons s t => exact h s List.mem_cons_self
theorem szL_ok {n : Int} {l : List ByteArray} (hb : bok n l = true) : bok (szL l : Int) l = true := by
  cases l with
  | nil => exact bok_iff.2 ⟨⟨by omega, by show ((0 : Nat) : Int) ≤ 64; omega⟩, by simp, fun s h => by simp at h⟩
  | cons s t => rw [szL_of hb (by simp)]; exact hb
theorem rd_of {z : Int} {m : List Rw} {n : Int} {l : List ByteArray} (hok : okM m = true) (h : bmayE z m n l = 0) : rdOk z m l = true := by
  obtain ⟨h1, h2, h3⟩ := bmay_iff.1 h
  exact rdOk_iff.2 ⟨hok, h1, h3, szL_ok h2⟩
def mode20 : FuncId → Nat := fun f => 0
/-! downpour/backsub.Known -/
noncomputable abbrev qd16 : Code := (sub (bodyOf Tryd.prog 30) [1, 1, 1, 1, 1, 1, 0, 1, 0, 0])
noncomputable abbrev qd17 (fuel : Nat) : Ctx Out := (fnX Tryd.prog mode20 T_reduced fuel 65 0)
noncomputable abbrev qd18 : List Nat := [6, 7, 8, 11, 13, 14, 35, 36, 37]
noncomputable abbrev qd19 : Nat := 27670116110564352448
noncomputable def KnownF_s3 {R : Type} (w0 w1 : Int) (w2 : List ((Int × List Int) × ByteArray)) (w3 w4 : List Int) (w5 : Nat) (w6 : List ByteArray) (w7 : Nat) (c0 c1 : Nat → Nat → Int → List Int → List ByteArray → Option R) (c2 : Nat → Nat → List Int → List ByteArray → Option R) : Option R :=
  br (decide (w0 < w1))
    (bnd (ix w2 w0) fun e0 =>
    grd (okW e0.1.2) <|
    br (((if rtS e0.1.1 e0.1.2 = true then (((plS e0.1.2).length : Nat) : Int) else 0) : Int) == 1)
      (bnd (ix w3 w0) fun e1 =>
      grd (Nat.beq w4.length w5) <|
      grd (okN (w5 + 1) 8) <|
      grd (Nat.beq w6.length w7) <|
      grd (okN (w7 + 1) 16) <|
      c0 ((w4 ++ [e1]).length) ((w6 ++ [e0.2]).length) (IntKind.i64.wrap (w0 + 1)) (w4 ++ [e1]) (w6 ++ [e0.2]))
      (c1 w5 w7 (IntKind.i64.wrap (w0 + 1)) w4 w6))
    (c2 w5 w7 w4 w6)
theorem KnownF_s3_eq (fuel k : Nat) (K : Ex → St → Option Out) (w0 w1 : Int) (w2 : List ((Int × List Int) × ByteArray)) (w3 w4 : List Int) (w5 : Nat) (w6 : List ByteArray) (w7 : Nat) : lpN qd16 (qd17 fuel) qd19 qd18 (k + 1) ⟨[(6, vN), (7, vN), (8, vI 0), (11, vL w3), (13, .sl 0 1 0 w5), (14, .sl 1 1 0 w7), (35, .lt (.pair (.pair (.int .i64) (.sl (.int .u64))) .str) w2), (36, vI w1), (37, vI w0)], [(0, bL 3 w4), (1, some ⟨9, .ls w6, true⟩)], 2, none⟩ K = KnownF_s3 w0 w1 w2 w3 w4 w5 w6 w7 (fun a0 a1 a2 a3 a4 => lpN qd16 (qd17 fuel) qd19 qd18 k ⟨[(6, vN), (7, vN), (8, vI 0), (11, vL w3), (13, .sl 0 1 0 a0), (14, .sl 1 1 0 a1), (35, .lt (.pair (.pair (.int .i64) (.sl (.int .u64))) .str) w2), (36, vI w1), (37, vI a2)], [(0, bL 3 a3), (1, some ⟨9, .ls a4, true⟩)], 2, none⟩ K) (fun a5 a6 a7 a8 a9 => lpN qd16 (qd17 fuel) qd19 qd18 k ⟨[(6, vN), (7, vN), (8, vI 0), (11, vL w3), (13, .sl 0 1 0 a5), (14, .sl 1 1 0 a6), (35, .lt (.pair (.pair (.int .i64) (.sl (.int .u64))) .str) w2), (36, vI w1), (37, vI a7)], [(0, bL 3 a8), (1, some ⟨9, .ls a9, true⟩)], 2, none⟩ K) (fun a79 a80 a81 a82 => K (.exit 0) ⟨[(6, vN), (7, vN), (8, vI 0), (13, .sl 0 1 0 a79), (14, .sl 1 1 0 a80)], [(0, bL 3 a81), (1, some ⟨9, .ls a82, true⟩)], 2, none⟩) := by kernel_rfl
noncomputable def KnownF_l2 {R : Type} (fuel : Nat) (w0 : List Int) (w1 : List ((Int × List Int) × ByteArray)) (w2 : Int) (k0 : Nat → Nat → List Int → List ByteArray → Option R) : Nat → Nat → Nat → Int → List Int → List ByteArray → Option R
  | 0, _, _, _, _, _ => none
  | k + 1, w3, w4, w5, w6, w7 =>
    (KnownF_s3 w5 w2 w1 w0 w6 w3 w7 w4 (fun a0 a1 a2 a3 a4 => ( KnownF_l2 fuel w0 w1 w2 k0 k a0 a1 a2 a3 a4 )) (fun a5 a6 a7 a8 a9 => ( KnownF_l2 fuel w0 w1 w2 k0 k a5 a6 a7 a8 a9 )) (fun a79 a80 a81 a82 => k0 a79 a80 a81 a82))
theorem KnownF_l2_eq (fuel : Nat) (w0 : List Int) (w1 : List ((Int × List Int) × ByteArray)) (w2 : Int) (K : Ex → St → Option Out) : ∀ (k w3 w4 : Nat) (w5 : Int) (w6 : List Int) (w7 : List ByteArray), lpN qd16 (qd17 fuel) qd19 qd18 k ⟨[(6, vN), (7, vN), (8, vI 0), (11, vL w0), (13, .sl 0 1 0 w3), (14, .sl 1 1 0 w4), (35, .lt (.pair (.pair (.int .i64) (.sl (.int .u64))) .str) w1), (36, vI w2), (37, vI w5)], [(0, bL 3 w6), (1, some ⟨9, .ls w7, true⟩)], 2, none⟩ K = KnownF_l2 fuel w0 w1 w2 (fun y0 y1 y2 y3 => K (.exit 0) ⟨[(6, vN), (7, vN), (8, vI 0), (13, .sl 0 1 0 y0), (14, .sl 1 1 0 y1)], [(0, bL 3 y2), (1, some ⟨9, .ls y3, true⟩)], 2, none⟩) k w3 w4 w5 w6 w7
  | 0, _, _, _, _, _ => rfl
  | k + 1, w3, w4, w5, w6, w7 => by
    unfold KnownF_l2
    exact (KnownF_s3_eq fuel k K w5 w2 w1 w0 w6 w3 w7 w4).trans (congr (congr (congr (Eq.refl (KnownF_s3 (R := Out) w5 w2 w1 w0 w6 w3 w7 w4)) (funext fun a0 => funext fun a1 => funext fun a2 => funext fun a3 => funext fun a4 => KnownF_l2_eq fuel w0 w1 w2 K k a0 a1 a2 a3 a4)) (funext fun a5 => funext fun a6 => funext fun a7 => funext fun a8 => funext fun a9 => KnownF_l2_eq fuel w0 w1 w2 K k a5 a6 a7 a8 a9)) (rfl))
noncomputable def KnownF_s2 {R : Type} (w0 w1 : Int) (w2 : List ((Int × List Int) × ByteArray)) (w3 : List Int) (c0 : Nat → Nat → Int → List Int → List ByteArray → Option R) (c1 : List Int → (List ((Int × List Int) × ByteArray)) → Int → Int → Option R) (c2 : Option R) : Option R :=
  br (decide (w0 < w1))
    (bnd (ix w2 w0) fun e0 =>
    grd (okW e0.1.2) <|
    br (((if rtS e0.1.1 e0.1.2 = true then (((plS e0.1.2).length : Nat) : Int) else 0) : Int) == 1)
      (bnd (ix w3 w0) fun e1 =>
      c0 1 1 (IntKind.i64.wrap (w0 + 1)) ([e1]) ([e0.2]))
      (c1 w3 w2 w1 (IntKind.i64.wrap (w0 + 1))))
    (c2)
theorem KnownF_s2_eq (fuel k : Nat) (K : Ex → St → Option Out) (w0 w1 : Int) (w2 : List ((Int × List Int) × ByteArray)) (w3 : List Int) : lpN qd16 (qd17 fuel) qd19 qd18 (k + 1) ⟨[(6, vN), (7, vN), (8, vI 0), (11, vL w3), (13, vN), (14, vN), (35, .lt (.pair (.pair (.int .i64) (.sl (.int .u64))) .str) w2), (36, vI w1), (37, vI w0)], [], 0, none⟩ K = KnownF_s2 w0 w1 w2 w3 (fun a0 a1 a2 a3 a4 => lpN qd16 (qd17 fuel) qd19 qd18 k ⟨[(6, vN), (7, vN), (8, vI 0), (11, vL w3), (13, .sl 0 1 0 a0), (14, .sl 1 1 0 a1), (35, .lt (.pair (.pair (.int .i64) (.sl (.int .u64))) .str) w2), (36, vI w1), (37, vI a2)], [(0, bL 3 a3), (1, some ⟨9, .ls a4, true⟩)], 2, none⟩ K) (fun a5 a6 a7 a8 => lpN qd16 (qd17 fuel) qd19 qd18 k ⟨[(6, vN), (7, vN), (8, vI 0), (11, vL a5), (13, vN), (14, vN), (35, .lt (.pair (.pair (.int .i64) (.sl (.int .u64))) .str) a6), (36, vI a7), (37, vI a8)], [], 0, none⟩ K) (K (.exit 0) ⟨[(6, vN), (7, vN), (8, vI 0), (13, vN), (14, vN)], [], 0, none⟩) := by kernel_rfl
noncomputable def KnownF_l1 {R : Type} (fuel : Nat)  (k0 : Nat → Nat → List Int → List ByteArray → Option R) (k1 : Option R) : Nat → List Int → (List ((Int × List Int) × ByteArray)) → Int → Int → Option R
  | 0, _, _, _, _ => none
  | k + 1, w0, w1, w2, w3 =>
    (KnownF_s2 w3 w2 w1 w0 (fun a0 a1 a2 a3 a4 => (KnownF_l2 fuel w0 w1 w2 (fun x0 x1 x2 x3 => k0 x0 x1 x2 x3) k a0 a1 a2 a3 a4)) (fun a5 a6 a7 a8 => ( KnownF_l1 fuel k0 k1 k a5 a6 a7 a8 )) (k1))
theorem KnownF_l1_eq (fuel : Nat)  (K : Ex → St → Option Out) : ∀ (k : Nat) (w0 : List Int) (w1 : List ((Int × List Int) × ByteArray)) (w2 w3 : Int), lpN qd16 (qd17 fuel) qd19 qd18 k ⟨[(6, vN), (7, vN), (8, vI 0), (11, vL w0), (13, vN), (14, vN), (35, .lt (.pair (.pair (.int .i64) (.sl (.int .u64))) .str) w1), (36, vI w2), (37, vI w3)], [], 0, none⟩ K = KnownF_l1 fuel  (fun y0 y1 y2 y3 => K (.exit 0) ⟨[(6, vN), (7, vN), (8, vI 0), (13, .sl 0 1 0 y0), (14, .sl 1 1 0 y1)], [(0, bL 3 y2), (1, some ⟨9, .ls y3, true⟩)], 2, none⟩) (K (.exit 0) ⟨[(6, vN), (7, vN), (8, vI 0), (13, vN), (14, vN)], [], 0, none⟩) k w0 w1 w2 w3
  | 0, _, _, _, _ => rfl
  | k + 1, w0, w1, w2, w3 => by
    unfold KnownF_l1
    exact (KnownF_s2_eq fuel k K w3 w2 w1 w0).trans (congr (congr (congr (Eq.refl (KnownF_s2 (R := Out) w3 w2 w1 w0)) (funext fun a0 => funext fun a1 => funext fun a2 => funext fun a3 => funext fun a4 => KnownF_l2_eq fuel w0 w1 w2 K k a0 a1 a2 a3 a4)) (funext fun a5 => funext fun a6 => funext fun a7 => funext fun a8 => KnownF_l1_eq fuel  K k a5 a6 a7 a8)) (rfl))
noncomputable def KnownF_s4 {R : Type} (x0 : List Int) (x1 : Nat) (x2 : List ByteArray) (x3 : Nat) (c0 : List Int → List ByteArray → Int → Option R) : Option R :=
  c0 ((x0.drop 0).take x1) ((x2.drop 0).take x3) 0
theorem KnownF_s4_eq (fuel : Nat)  (x0 : List Int) (x1 : Nat) (x2 : List ByteArray) (x3 : Nat) : (kont (qd17 fuel) (bodyOf Tryd.prog 30) [1, 1, 1, 1, 1, 1, 0, 1, 0] 448 (endK Tryd.prog 0 0 30)) (.exit 0) ⟨[(6, vN), (7, vN), (8, vI 0), (13, .sl 0 1 0 x1), (14, .sl 1 1 0 x3)], [(0, bL 3 x0), (1, some ⟨9, .ls x2, true⟩)], 2, none⟩ = KnownF_s4 x0 x1 x2 x3 (fun a0 a1 a2 => some (.tup [vL a0, .ls a1, vI a2], [])) := by kernel_rfl
noncomputable def KnownF_s5 {R : Type}  (c0 : Int → Option R) : Option R :=
  c0 0
theorem KnownF_s5_eq (fuel : Nat)   : (kont (qd17 fuel) (bodyOf Tryd.prog 30) [1, 1, 1, 1, 1, 1, 0, 1, 0] 448 (endK Tryd.prog 0 0 30)) (.exit 0) ⟨[(6, vN), (7, vN), (8, vI 0), (13, vN), (14, vN)], [], 0, none⟩ = KnownF_s5  (fun a0 => some (.tup [vN, vN, vI a0], [])) := by kernel_rfl
noncomputable def KnownF_s1 {R : Type} (m : List (Int × List Int)) (z n : Int) (l : List ByteArray) (c0 : Int → Option R) (c1 : List Int → (List ((Int × List Int) × ByteArray)) → Int → Int → Option R) : Option R :=
  grd (okM m) <|
  br (((bmayE z m n l) : Int) != 0)
    (c0 (bmayE z m n l))
    (grd (rdOk z m l) <|
    br (!(fitB z m l))
      (c0 10)
      (c1 (rdP z m l) (rdL z m l) (((rdL z m l).length : Nat) : Int) 0))
theorem KnownF_s1_eq (fuel : Nat)  (m : List (Int × List Int)) (z n : Int) (l : List ByteArray) : callN Tryd.prog mode20 T_reduced fuel 30 [.agg [vI z, vR m], vI n, .ls l] [] = KnownF_s1 m z n l (fun a1 => some (.tup [vN, vN, vI a1], [])) (fun a0 a2 a3 a4 => lpN qd16 (qd17 fuel) qd19 qd18 fuel ⟨[(6, vN), (7, vN), (8, vI 0), (11, vL a0), (13, vN), (14, vN), (35, .lt (.pair (.pair (.int .i64) (.sl (.int .u64))) .str) a2), (36, vI a3), (37, vI a4)], [], 0, none⟩ (kont (qd17 fuel) (bodyOf Tryd.prog 30) [1, 1, 1, 1, 1, 1, 0, 1, 0] 448 (endK Tryd.prog 0 0 30))) := by kernel_rfl
noncomputable def KnownF {R : Type} (fuel : Nat) (z : Int) (m : List (Int × List Int)) (n : Int) (l : List ByteArray) (r0 : Int → Option R) (r1 : List Int → List ByteArray → Int → Option R) : Option R :=
  (KnownF_s1 m z n l (fun a1 => r0 a1) (fun a0 a2 a3 a4 => (KnownF_l1 fuel (fun x0 x1 x2 x3 => (KnownF_s4 x2 x0 x3 x1 (fun a5 a6 a7 => r1 a5 a6 a7))) ((KnownF_s5 (fun a8 => r0 a8))) fuel a0 a2 a3 a4)))
theorem KnownF_eq (fuel : Nat) (z : Int) (m : List (Int × List Int)) (n : Int) (l : List ByteArray) : callN Tryd.prog mode20 T_reduced fuel 30 [.agg [.s (.int .i64 z), .lt (.pair (.int .i64) (.sl (.int .u64))) m], .s (.int .i64 n), .ls l] [] = KnownF fuel z m n l (fun z0 => some (.tup [.s (.slice none 0 0), .s (.slice none 0 0), .s (.int .i64 z0)], [])) (fun z0 z1 z2 => some (.tup [.li .i64 z0, .ls z1, .s (.int .i64 z2)], [])) := by
  unfold KnownF
  exact (KnownF_s1_eq fuel  m z n l).trans (congr (congr (Eq.refl (KnownF_s1 (R := Out) m z n l)) (rfl)) (funext fun a0 => funext fun a1 => funext fun a2 => funext fun a3 => (KnownF_l1_eq fuel  (kont (qd17 fuel) (bodyOf Tryd.prog 30) [1, 1, 1, 1, 1, 1, 0, 1, 0] 448 (endK Tryd.prog 0 0 30)) fuel a0 a1 a2 a3).trans (congrFun (congrFun (congrFun (congrFun (congrFun (congr (congr (Eq.refl (KnownF_l1 (R := Out) fuel )) (funext fun x0 => funext fun x1 => funext fun x2 => funext fun x3 => (KnownF_s4_eq fuel  x2 x0 x3 x1))) ((KnownF_s5_eq fuel  ))) fuel) a0) a1) a2) a3)))
theorem Known_more {R : Type} (fuel : Nat) (z : Int) (h0 : 0 ≤ z) (h1 : z ≤ 64) (K : Nat) (r : List (Nat × Nat)) (hr : r.length ≤ 64) (hf : ∀ x, x ∈ r → (lo z.toNat x.2).testBit x.1 = true) (k0 : Nat → Nat → List Int → List ByteArray → Option R) : ∀ (k j : Nat) (a : List Int) (b : List ByteArray), j ≤ r.length → r.length < j + k → a.length ≤ j → b.length ≤ j →
    KnownF_l2 fuel (r.map fun x => (x.1 : Int)) (r.map fun x => eqU z K x.2) (r.length : Int) k0 k a.length b.length (j : Int) a b = k0 (a ++ ((r.drop j).filter (isTold z)).map (fun x => (x.1 : Int))).length (b ++ ((r.drop j).filter (isTold z)).map (fun x => (eqU z K x.2).2)).length (a ++ ((r.drop j).filter (isTold z)).map (fun x => (x.1 : Int))) (b ++ ((r.drop j).filter (isTold z)).map (fun x => (eqU z K x.2).2))
  | 0, j, a, b, h2, h3, _, _ => by omega
  | k + 1, j, a, b, h2, h3, ha, hb => by
    unfold KnownF_l2 KnownF_s3
    rw [br_if]
    by_cases hc : j < r.length
    · have e1 : ix (r.map fun x => eqU z K x.2) (j : Int) = some (eqU z K (r[j]).2) := by rw [ix_nat, List.getElem?_map, List.getElem?_eq_getElem hc]; rfl
      have e2 : ix (r.map fun x => (x.1 : Int)) (j : Int) = some ((r[j]).1 : Int) := by rw [ix_nat, List.getElem?_map, List.getElem?_eq_getElem hc]; rfl
      rw [if_pos (by simpa using hc), bnd_of e1, grd_of (eqU_ok z K _), br_if, told_cnt h0 h1 K (hf _ (List.getElem_mem hc)), bnd_of e2, grd_of (beq_self _), grd_of (okN_of (by omega) (by omega)), grd_of (beq_self _), grd_of (okN_of (by omega) (by omega)), wrap_i64 (by omega) (by omega), show (j : Int) + 1 = ((j + 1 : Nat) : Int) by omega, List.drop_eq_getElem_cons hc]
      by_cases h : isTold z r[j] = true
      · rw [if_pos h, List.filter_cons_of_pos h, List.map_cons, List.map_cons]
        have := Known_more fuel z h0 h1 K r hr hf k0 k (j + 1) (a ++ [((r[j]).1 : Int)]) (b ++ [(eqU z K (r[j]).2).2]) (by omega) (by omega) (by simp; omega) (by simp; omega)
        rw [List.append_assoc, List.append_assoc] at this
        exact this
      · rw [if_neg h, List.filter_cons_of_neg h]
        exact Known_more fuel z h0 h1 K r hr hf k0 k (j + 1) a b (by omega) (by omega) (by omega) (by omega)
    · rw [if_neg (by simpa using hc), List.drop_eq_nil_of_le (by omega)]
      simp
theorem Known_fst {R : Type} (fuel : Nat) (z : Int) (h0 : 0 ≤ z) (h1 : z ≤ 64) (K : Nat) (r : List (Nat × Nat)) (hr : r.length ≤ 64) (hf : ∀ x, x ∈ r → (lo z.toNat x.2).testBit x.1 = true) (k0 : Nat → Nat → List Int → List ByteArray → Option R) (k1 : Option R) : ∀ (k j : Nat), j ≤ r.length → r.length < j + k →
    KnownF_l1 fuel k0 k1 k (r.map fun x => (x.1 : Int)) (r.map fun x => eqU z K x.2) (r.length : Int) (j : Int) = if ((r.drop j).filter (isTold z)).length = 0 then k1 else k0 (((r.drop j).filter (isTold z)).map (fun x => (x.1 : Int))).length (((r.drop j).filter (isTold z)).map (fun x => (eqU z K x.2).2)).length (((r.drop j).filter (isTold z)).map (fun x => (x.1 : Int))) (((r.drop j).filter (isTold z)).map (fun x => (eqU z K x.2).2))
  | 0, j, h2, h3 => by omega
  | k + 1, j, h2, h3 => by
    unfold KnownF_l1 KnownF_s2
    rw [br_if]
    by_cases hc : j < r.length
    · have e1 : ix (r.map fun x => eqU z K x.2) (j : Int) = some (eqU z K (r[j]).2) := by rw [ix_nat, List.getElem?_map, List.getElem?_eq_getElem hc]; rfl
      have e2 : ix (r.map fun x => (x.1 : Int)) (j : Int) = some ((r[j]).1 : Int) := by rw [ix_nat, List.getElem?_map, List.getElem?_eq_getElem hc]; rfl
      rw [if_pos (by simpa using hc), bnd_of e1, grd_of (eqU_ok z K _), br_if, told_cnt h0 h1 K (hf _ (List.getElem_mem hc)), bnd_of e2, wrap_i64 (by omega) (by omega), show (j : Int) + 1 = ((j + 1 : Nat) : Int) by omega, List.drop_eq_getElem_cons hc]
      by_cases h : isTold z r[j] = true
      · rw [if_pos h, List.filter_cons_of_pos h, if_neg (by simp)]
        cases k with
        | zero => omega
        | succ k => exact Known_more fuel z h0 h1 K r hr hf _ (k + 1) (j + 1) [((r[j]).1 : Int)] [(eqU z K (r[j]).2).2] (by omega) (by omega) (by simp) (by simp)
      · rw [if_neg h, List.filter_cons_of_neg h]
        exact Known_fst fuel z h0 h1 K r hr hf k0 k1 k (j + 1) (by omega) (by omega)
    · rw [if_neg (by simpa using hc), List.drop_eq_nil_of_le (by omega), if_pos (by rfl)]
theorem Known_fact (z : Int) (m : List (Int × List Int)) (n : Int) (l : List ByteArray) (hg : (okM m && decide (m.length ≤ 1000)) = true) : Fact Tryd.prog noG 30 [.agg [.s (.int .i64 z), .lt (.pair (.int .i64) (.sl (.int .u64))) m], .s (.int .i64 n), .ls l] [] (.tup [.li .i64 (knA z m n l), .ls (knL z m n l), .s (.int .i64 (knE z m n l))], []) := by
  simp only [Bool.and_eq_true, decide_eq_true_eq] at hg
  obtain ⟨hok, hl2⟩ := hg
  have hbad : ∀ e : Int, e ≠ 0 → knE z m n l = e → callN Tryd.prog mode20 T_reduced 80 30 [.agg [.s (.int .i64 z), .lt (.pair (.int .i64) (.sl (.int .u64))) m], .s (.int .i64 n), .ls l] [] = some (.tup [.s (.slice none 0 0), .s (.slice none 0 0), .s (.int .i64 e)], []) → Fact Tryd.prog noG 30 [.agg [.s (.int .i64 z), .lt (.pair (.int .i64) (.sl (.int .u64))) m], .s (.int .i64 n), .ls l] [] (.tup [.li .i64 (knA z m n l), .ls (knL z m n l), .s (.int .i64 (knE z m n l))], []) := fun e he hE hw => by
    have hA : knA z m n l = [] := by rw [knA_eq]; unfold knAI; rw [hE, if_neg he]
    have hL : knL z m n l = [] := by rw [knL_eq]; unfold knLI; rw [hE, if_neg he]
    rw [hA, hL, hE]
    exact (callN_fact hN hM T_reduced_ok hw).out fun _ _ _ x h => RV_tup_two (fun _ h => RVs_two (fun _ h => RV_nil_li h) (fun _ h => RVs_two (fun _ h => RV_nil_ls h) (fun _ h => h) h) h) h
  by_cases hb : bmayE z m n l = 0
  · have hrd := rd_of hok hb
    obtain ⟨hm, hbok, hlen⟩ := bmay_iff.1 hb
    obtain ⟨⟨n0, n1⟩, hx, hrows⟩ := mrt_iff.1 hm
    obtain ⟨⟨b0, b1⟩, b2, b3⟩ := bok_iff.1 hbok
    by_cases hf : fitB z m l = true
    · have hE : knE z m n l = 0 := by rw [knE_eq]; unfold knEI; rw [if_pos hb, if_pos hf]
      have hF := fit_iff.1 hf
      have hA : knA z m n l = ((red (augs z m l)).filter (isTold z)).map (fun x => (x.1 : Int)) := by rw [knA_eq]; unfold knAI; rw [if_pos hE]
      have hL : knL z m n l = ((red (augs z m l)).filter (isTold z)).map (fun x => (eqU z (szL l) x.2).2) := by
        rw [knL_eq]; unfold knLI; rw [if_pos hE]
        by_cases h0 : l.length = 0
        · have hl0 := List.eq_nil_of_length_eq_zero h0
          have hm0 : m = [] := List.eq_nil_of_length_eq_zero (by omega)
          have : red (augs z m l) = [] := by rw [hm0]; exact red_nil_eq
          rw [this]; rfl
        · have hsz := szL_of hbok (by omega)
          rw [show n.toNat = szL l by omega]; rfl
      obtain ⟨z1, z2, z3⟩ := zip_eqs (z := z) (k := szL l) (m := m) (l := l) (fun r hr => ⟨okM_iff.1 hok r hr, (hrows r hr).1, (hrows r hr).1 ▸ (hrows r hr).2⟩) (fun s hs => by have := b3 s hs; have h1 := szL_of hbok (List.length_pos_of_mem hs); omega)
      have hP : rdP z m l = (red (augs z m l)).map fun x => (x.1 : Int) := by
        rw [rdP_eq]; unfold rdPI; rw [if_pos hf, echP_eq]; unfold echPI pcast Lin.places
        rw [if_pos hm, ← z2 hlen.symm, fit_red hF, List.map_map, List.map_map]; rfl
      have hLf : rdL z m l = (red (augs z m l)).map fun x => eqU z (szL l) x.2 := by
        rw [rdL_eq]; unfold rdLI Lin.rows; rw [if_pos hf, List.map_map]; rfl
      have hlen2 : (red (augs z m l)).length ≤ 64 := by
        have h1 := inc_len (red (augs z m l)) 0 z.toNat (red_is _).1.inc fun x hx => ⟨Nat.zero_le _, (fit_places hF hx).1⟩
        omega
      have hwalk : callN Tryd.prog mode20 T_reduced 80 30 [.agg [.s (.int .i64 z), .lt (.pair (.int .i64) (.sl (.int .u64))) m], .s (.int .i64 n), .ls l] [] = if ((red (augs z m l)).filter (isTold z)).length = 0 then some (.tup [.s (.slice none 0 0), .s (.slice none 0 0), .s (.int .i64 0)], []) else some (.tup [.li .i64 (((red (augs z m l)).filter (isTold z)).map (fun x => (x.1 : Int))), .ls (((red (augs z m l)).filter (isTold z)).map (fun x => (eqU z (szL l) x.2).2)), .s (.int .i64 0)], []) := by
        rw [KnownF_eq]
        unfold KnownF KnownF_s1
        rw [grd_of hok, br_if, hb, if_neg (by decide), grd_of hrd, br_if, if_neg (by rw [hf]; decide), hP, hLf, List.length_map]
        have h1 := fun k0 k1 => Known_fst (R := Out) 80 z n0 n1 (szL l) (red (augs z m l)) hlen2 (fun x hx => (fit_places hF hx).2) k0 k1 80 0 (by omega) (by omega)
        rw [List.drop_zero, show ((0 : Nat) : Int) = 0 from rfl] at h1
        dsimp only
        rw [h1]
        by_cases h : ((red (augs z m l)).filter (isTold z)).length = 0
        · rw [if_pos h, if_pos h]; rfl
        · rw [if_neg h, if_neg h]
          unfold KnownF_s4
          rw [List.drop_zero, List.take_length, List.drop_zero, List.take_length]
      rw [hE, hA, hL]
      by_cases h : ((red (augs z m l)).filter (isTold z)).length = 0
      · rw [if_pos h] at hwalk
        rw [List.eq_nil_of_length_eq_zero h]
        exact (callN_fact hN hM T_reduced_ok hwalk).out fun _ _ _ x h => RV_tup_two (fun _ h => RVs_two (fun _ h => RV_nil_li h) (fun _ h => RVs_two (fun _ h => RV_nil_ls h) (fun _ h => h) h) h) h
      · rw [if_neg h] at hwalk
        exact callN_fact hN hM T_reduced_ok hwalk
    · refine hbad 10 (by decide) (by rw [knE_eq]; unfold knEI; rw [if_pos hb, if_neg hf]) ?_
      rw [KnownF_eq]
      unfold KnownF KnownF_s1
      rw [grd_of hok, br_if, hb, if_neg (by decide), grd_of hrd, br_if, if_pos (by rw [Bool.eq_false_iff.2 hf]; decide)]
  · refine hbad (bmayE z m n l) hb (by rw [knE_eq]; unfold knEI; rw [if_neg hb]) ?_
    rw [KnownF_eq]
    unfold KnownF KnownF_s1
    rw [grd_of hok, br_if, if_pos (by simp [hb])]
noncomputable def Known_ent : List V → List Blk → Option (Bool × Out)
  | [.agg [.s (.int .i64 z), w0], .s (.int .i64 n), w1], [] => (asSl (.pair (.int .i64) (.sl (.int .u64))) w0).bind fun m => (asSl .str w1).bind fun l => some ((okM m && decide (m.length ≤ 1000)), (.tup [.li .i64 (knA z m n l), .ls (knL z m n l), .s (.int .i64 (knE z m n l))], []))
  | _, _ => none
theorem Known_ok : ∀ args bs out, Known_ent args bs = some (true, out) → Fact Tryd.prog noG 30 args bs out := by
  intro args bs out h
  unfold Known_ent at h
  split at h
  · rename_i z w0 n w1
    obtain ⟨m, h_m, h⟩ := Option.bind_eq_some_iff.1 h
    obtain ⟨l, h_l, h⟩ := Option.bind_eq_some_iff.1 h
    simp only [Option.some.injEq, Prod.mk.injEq] at h
    obtain ⟨hg, rfl⟩ := h
    exact (Known_fact z m n l hg).args (fun _ _ _ => fun _ h => RVs_two (fun _ h => RV_agg_two (fun _ h => RVs_two (fun _ h => h) (fun _ h => RVs_two (fun _ h => RV_sl (s := (.pair (.int .i64) (.sl (.int .u64)))) h_m h) (fun _ h => h) h) h) h) (fun _ h => RVs_two (fun _ h => h) (fun _ h => RVs_two (fun _ h => RV_ls h_l h) (fun _ h => h) h) h) h)
  · cases h
noncomputable def T_Known : Tbl := Tbl.cons 30 Known_ent T_reduced
theorem T_Known_ok : CallOk Tryd.prog noG T_Known := cons_ok T_reduced_ok Known_ok
/-! downpour/backsub.Solve -/
noncomputable def SolveF_s1 {R : Type} (m : List (Int × List Int)) (z n : Int) (l : List ByteArray) (c0 : Int → Option R) (c1 : List ByteArray → Int → Option R) : Option R :=
  grd (okM m && decide (m.length ≤ 1000)) <|
  br (((knE z m n l) : Int) != 0)
    (c0 (knE z m n l))
    (br (decide ((((knA z m n l).length : Nat) : Int) < z))
      (c0 9)
      (c1 (knL z m n l) 0))
theorem SolveF_s1_eq (fuel : Nat)  (m : List (Int × List Int)) (z n : Int) (l : List ByteArray) : callN Tryd.prog mode20 T_Known fuel 29 [.agg [vI z, vR m], vI n, .ls l] [] = SolveF_s1 m z n l (fun a1 => some (.tup [vN, vI a1], [])) (fun a3 a4 => some (.tup [.ls a3, vI a4], [])) := by kernel_rfl
noncomputable def SolveF {R : Type} (fuel : Nat) (z : Int) (m : List (Int × List Int)) (n : Int) (l : List ByteArray) (r0 : Int → Option R) (r1 : List ByteArray → Int → Option R) : Option R :=
  (SolveF_s1 m z n l (fun a1 => r0 a1) (fun a3 a4 => r1 a3 a4))
theorem SolveF_eq (fuel : Nat) (z : Int) (m : List (Int × List Int)) (n : Int) (l : List ByteArray) : callN Tryd.prog mode20 T_Known fuel 29 [.agg [.s (.int .i64 z), .lt (.pair (.int .i64) (.sl (.int .u64))) m], .s (.int .i64 n), .ls l] [] = SolveF fuel z m n l (fun z0 => some (.tup [.s (.slice none 0 0), .s (.int .i64 z0)], [])) (fun z0 z1 => some (.tup [.ls z0, .s (.int .i64 z1)], [])) := by
  unfold SolveF
  exact (SolveF_s1_eq fuel  m z n l)
theorem Solve_fact (z : Int) (m : List (Int × List Int)) (n : Int) (l : List ByteArray) (hg : (okM m && decide (m.length ≤ 1000)) = true) : Fact Tryd.prog noG 29 [.agg [.s (.int .i64 z), .lt (.pair (.int .i64) (.sl (.int .u64))) m], .s (.int .i64 n), .ls l] [] (.tup [.ls (slL z m n l), .s (.int .i64 (slE z m n l))], []) := by
  have hbad : ∀ e : Int, e ≠ 0 → slE z m n l = e → callN Tryd.prog mode20 T_Known 0 29 [.agg [.s (.int .i64 z), .lt (.pair (.int .i64) (.sl (.int .u64))) m], .s (.int .i64 n), .ls l] [] = some (.tup [.s (.slice none 0 0), .s (.int .i64 e)], []) → Fact Tryd.prog noG 29 [.agg [.s (.int .i64 z), .lt (.pair (.int .i64) (.sl (.int .u64))) m], .s (.int .i64 n), .ls l] [] (.tup [.ls (slL z m n l), .s (.int .i64 (slE z m n l))], []) := fun e he hE hw => by
    have hL : slL z m n l = [] := by rw [slL_eq]; unfold slLI; rw [hE, if_neg he]
    rw [hL, hE]
    exact (callN_fact hN hM T_Known_ok hw).out fun _ _ _ x h => RV_tup_two (fun _ h => RVs_two (fun _ h => RV_nil_ls h) (fun _ h => h) h) h
  by_cases hb : knE z m n l = 0
  · by_cases hl : ((knA z m n l).length : Int) < z
    · refine hbad 9 (by decide) (by rw [slE_eq]; unfold slEI; rw [if_pos hb, if_pos hl]) ?_
      rw [SolveF_eq]
      unfold SolveF SolveF_s1
      rw [grd_of hg, br_if, hb, if_neg (by decide), br_if, if_pos (by simpa using hl)]
    · have hE : slE z m n l = 0 := by rw [slE_eq]; unfold slEI; rw [if_pos hb, if_neg hl]
      have hL : slL z m n l = knL z m n l := by rw [slL_eq]; unfold slLI; rw [if_pos hE]
      rw [hE, hL]
      refine callN_fact hN hM T_Known_ok (n := 0) (mode := mode20) ?_
      rw [SolveF_eq]
      unfold SolveF SolveF_s1
      rw [grd_of hg, br_if, hb, if_neg (by decide), br_if, if_neg (by simpa using hl)]
  · refine hbad (knE z m n l) hb (by rw [slE_eq]; unfold slEI; rw [if_neg hb]) ?_
    rw [SolveF_eq]
    unfold SolveF SolveF_s1
    rw [grd_of hg, br_if, if_pos (by simp [hb])]
noncomputable def Solve_ent : List V → List Blk → Option (Bool × Out)
  | [.agg [.s (.int .i64 z), w0], .s (.int .i64 n), w1], [] => (asSl (.pair (.int .i64) (.sl (.int .u64))) w0).bind fun m => (asSl .str w1).bind fun l => some ((okM m && decide (m.length ≤ 1000)), (.tup [.ls (slL z m n l), .s (.int .i64 (slE z m n l))], []))
  | _, _ => none
theorem Solve_ok : ∀ args bs out, Solve_ent args bs = some (true, out) → Fact Tryd.prog noG 29 args bs out := by
  intro args bs out h
  unfold Solve_ent at h
  split at h
  · rename_i z w0 n w1
    obtain ⟨m, h_m, h⟩ := Option.bind_eq_some_iff.1 h
    obtain ⟨l, h_l, h⟩ := Option.bind_eq_some_iff.1 h
    simp only [Option.some.injEq, Prod.mk.injEq] at h
    obtain ⟨hg, rfl⟩ := h
    exact (Solve_fact z m n l hg).args (fun _ _ _ => fun _ h => RVs_two (fun _ h => RV_agg_two (fun _ h => RVs_two (fun _ h => h) (fun _ h => RVs_two (fun _ h => RV_sl (s := (.pair (.int .i64) (.sl (.int .u64)))) h_m h) (fun _ h => h) h) h) h) (fun _ h => RVs_two (fun _ h => h) (fun _ h => RVs_two (fun _ h => RV_ls h_l h) (fun _ h => h) h) h) h)
  · cases h
noncomputable def T_Solve : Tbl := Tbl.cons 29 Solve_ent T_Known
theorem T_Solve_ok : CallOk Tryd.prog noG T_Solve := cons_ok T_Known_ok Solve_ok
/-! downpour/backsub.Fits -/
noncomputable def FitsF_s1 {R : Type} (m : List (Int × List Int)) (z n : Int) (l : List ByteArray) (c0 : Bool → Int → Option R) : Option R :=
  grd (okM m) <|
  br (((bmayE z m n l) : Int) != 0)
    (c0 false (bmayE z m n l))
    (grd (rdOk z m l) <|
    c0 (fitB z m l) 0)
theorem FitsF_s1_eq (fuel : Nat)  (m : List (Int × List Int)) (z n : Int) (l : List ByteArray) : callN Tryd.prog mode20 T_Solve fuel 31 [.agg [vI z, vR m], vI n, .ls l] [] = FitsF_s1 m z n l (fun a1 a2 => some (.tup [vB a1, vI a2], [])) := by kernel_rfl
noncomputable def FitsF {R : Type} (fuel : Nat) (z : Int) (m : List (Int × List Int)) (n : Int) (l : List ByteArray) (r0 : Bool → Int → Option R) : Option R :=
  (FitsF_s1 m z n l (fun a1 a2 => r0 a1 a2))
theorem FitsF_eq (fuel : Nat) (z : Int) (m : List (Int × List Int)) (n : Int) (l : List ByteArray) : callN Tryd.prog mode20 T_Solve fuel 31 [.agg [.s (.int .i64 z), .lt (.pair (.int .i64) (.sl (.int .u64))) m], .s (.int .i64 n), .ls l] [] = FitsF fuel z m n l (fun z0 z1 => some (.tup [.s (.bool z0), .s (.int .i64 z1)], [])) := by
  unfold FitsF
  exact (FitsF_s1_eq fuel  m z n l)
theorem Fits_fact (z : Int) (m : List (Int × List Int)) (n : Int) (l : List ByteArray) (hg : (okM m && decide (m.length ≤ 1000)) = true) : Fact Tryd.prog noG 31 [.agg [.s (.int .i64 z), .lt (.pair (.int .i64) (.sl (.int .u64))) m], .s (.int .i64 n), .ls l] [] (.tup [.s (.bool (ftB z m n l)), .s (.int .i64 (bmayE z m n l))], []) := by
  simp only [Bool.and_eq_true, decide_eq_true_eq] at hg
  obtain ⟨hok, hl2⟩ := hg
  refine callN_fact hN hM T_Solve_ok (n := 0) (mode := mode20) ?_
  rw [FitsF_eq]
  unfold FitsF FitsF_s1
  rw [grd_of hok, br_if, ftB_eq]
  unfold ftBI
  by_cases hb : bmayE z m n l = 0
  · rw [hb, if_neg (by decide), grd_of (rd_of hok hb), decide_eq_true rfl, Bool.true_and]
  · rw [if_pos (by simp [hb]), decide_eq_false hb, Bool.false_and]
noncomputable def Fits_ent : List V → List Blk → Option (Bool × Out)
  | [.agg [.s (.int .i64 z), w0], .s (.int .i64 n), w1], [] => (asSl (.pair (.int .i64) (.sl (.int .u64))) w0).bind fun m => (asSl .str w1).bind fun l => some ((okM m && decide (m.length ≤ 1000)), (.tup [.s (.bool (ftB z m n l)), .s (.int .i64 (bmayE z m n l))], []))
  | _, _ => none
theorem Fits_ok : ∀ args bs out, Fits_ent args bs = some (true, out) → Fact Tryd.prog noG 31 args bs out := by
  intro args bs out h
  unfold Fits_ent at h
  split at h
  · rename_i z w0 n w1
    obtain ⟨m, h_m, h⟩ := Option.bind_eq_some_iff.1 h
    obtain ⟨l, h_l, h⟩ := Option.bind_eq_some_iff.1 h
    simp only [Option.some.injEq, Prod.mk.injEq] at h
    obtain ⟨hg, rfl⟩ := h
    exact (Fits_fact z m n l hg).args (fun _ _ _ => fun _ h => RVs_two (fun _ h => RV_agg_two (fun _ h => RVs_two (fun _ h => h) (fun _ h => RVs_two (fun _ h => RV_sl (s := (.pair (.int .i64) (.sl (.int .u64)))) h_m h) (fun _ h => h) h) h) h) (fun _ h => RVs_two (fun _ h => h) (fun _ h => RVs_two (fun _ h => RV_ls h_l h) (fun _ h => h) h) h) h)
  · cases h
noncomputable def T_Fits : Tbl := Tbl.cons 31 Fits_ent T_Solve
theorem T_Fits_ok : CallOk Tryd.prog noG T_Fits := cons_ok T_Solve_ok Fits_ok
end Go.Proofs.YtfpdcfgjhkiklaaDoor
