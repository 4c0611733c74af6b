/- Symbols of blocks, and the law. -/
import Derived.Test.YtfpdcfgjhkiklaaDoorPmTab
import Derived.KernelRfl
import Derived.Test.YtfpdcfgjhkiklaaDoorProg
import Derived.Test.YtfpdcfgjhkiklaaDoorEncBlk
set_option autoImplicit false
set_option maxRecDepth 100000
set_option maxHeartbeats 4000000
set_option linter.unusedVariables false
set_option linter.unusedSimpArgs false
namespace Go.Proofs.YtfpdcfgjhkiklaaDoor
open Go Go.PM Go.Proofs Go.Shelf Go.PM.Row Go.PM.Bits Go.PM.Bit Go.PM.Blk
def mode19 : FuncId → Nat := fun f => 0
/-! A row's places are the numbers that it is of. -/
theorem rise_eq {a b : List Int} (ha : a.Pairwise (· < ·)) (hb : b.Pairwise (· < ·)) (h : ∀ x, x ∈ a ↔ x ∈ b) : a = b := by
  have na : a.Nodup := ha.imp fun h e => by omega
  have nb : b.Nodup := hb.imp fun h e => by omega
  exact List.Perm.eq_of_pairwise (le := (· ≤ ·)) (fun a b _ _ h h' => by omega) (ha.imp fun h => by omega) (hb.imp fun h => by omega) ((List.perm_ext_iff_of_nodup na nb).2 h)
theorem val_of {n : Int} {l : List Int} (h : ∀ z ∈ l, 0 ≤ z ∧ z < n) (h0 : 0 ≤ n) : val (ofS n l) = mask l := by
  have hw := nw_cast h0
  obtain ⟨m, rfl⟩ : ∃ m : Nat, n = (m : Int) := ⟨n.toNat, by omega⟩
  have hm := mask_lt h
  rw [of_eq h, val_words, Nat.mod_eq_of_lt (Nat.lt_of_lt_of_le hm (Nat.pow_le_pow_right (by omega) (by omega)))]
theorem plc_rise (v n : Nat) : (plc v n).Pairwise (· < ·) := by
  unfold plc
  rw [List.pairwise_map]
  exact (List.pairwise_lt_range.filter _).imp fun h => by omega
theorem rt_of {n : Int} {l : List Int} (h : ∀ z ∈ l, 0 ≤ z ∧ z < n) (h0 : 0 ≤ n) (h1 : n ≤ 512) : rtS n (ofS n l) = true := by
  refine rtS_iff.2 ⟨⟨h0, h1⟩, of_len n l, ?_⟩
  rw [val_of h h0]
  obtain ⟨m, rfl⟩ : ∃ m : Nat, n = (m : Int) := ⟨n.toNat, by omega⟩
  rw [Int.toNat_natCast]
  exact mask_lt h
theorem pl_of {n : Int} {l : List Int} (h : ∀ z ∈ l, 0 ≤ z ∧ z < n) (h0 : 0 ≤ n) (h1 : n ≤ 512) (hs : l.Pairwise (· < ·)) : plcS n (ofS n l) = l := by
  have hr := rt_of h h0 h1
  rw [plcS_eq]
  unfold plcI
  rw [if_pos hr, pl_plc (okW_iff.2 (of_ok n l)) hr]
  refine rise_eq (plc_rise _ _) hs fun x => ?_
  rw [mem_plc, val_of h h0]
  constructor
  · rintro ⟨i, h1, h2, rfl⟩
    rw [testBit_mask (fun z hz => (h z hz).1)] at h2
    exact of_decide_eq_true h2
  · intro hx
    have := h x hx
    refine ⟨x.toNat, by omega, ?_, by omega⟩
    rw [testBit_mask (fun z hz => (h z hz).1)]
    exact decide_eq_true (by rw [Int.toNat_of_nonneg this.1]; exact hx)
theorem nb_rise {z d : Int} (hk : 1 ≤ z) (hk2 : z ≤ 64) : (nbS z d).Pairwise (· < ·) := by
  rw [nbS_eq]
  unfold nbI
  have hn := next_range (mixedS d)
  rw [some_pick hn.1 hn.2 hk (by omega)]
  exact pick_rise
theorem nb_pos {z d : Int} (hk : 1 ≤ z) (hk2 : z ≤ 64) : 1 ≤ (nbS z d).length ∧ (nbS z d).length ≤ z.toNat := by
  rw [nbS_eq]
  unfold nbI
  have hm := mixed_range (nextS (mixedS d))
  have hc := chosen_range hk hk2 hm.1
  rw [some_len (by omega) hc.2]
  omega
theorem tmod2 (a : Int) {b : Int} (hb : 0 < b) : -b < a.tmod b ∧ a.tmod b < b := by
  by_cases h : 0 ≤ a
  · rw [Int.tmod_eq_emod_of_nonneg h]
    have := Int.emod_nonneg a (show b ≠ 0 by omega)
    have := Int.emod_lt_of_pos a hb
    omega
  · have e : a = -(-a) := by omega
    rw [e, Int.neg_tmod, Int.tmod_eq_emod_of_nonneg (by omega)]
    have := Int.emod_nonneg (-a) (show b ≠ 0 by omega)
    have := Int.emod_lt_of_pos (-a) hb
    omega
theorem rem2 (a : Int) {b : Int} (hb : 0 < b) : ∃ v, divI .rem .i64 a b = some v ∧ -b < v ∧ v < b := ⟨_, divI_rem (by omega), tmod2 a hb⟩
theorem remn {a b : Int} (ha : 0 ≤ a) (hb : 0 < b) : ∃ v, divI .rem .i64 a b = some v ∧ 0 ≤ v ∧ v < b := ⟨_, rem_pos ha hb, Int.emod_nonneg _ (by omega), Int.emod_lt_of_pos _ hb⟩
/-! Symbols of blocks. -/
abbrev Sy := Int × ByteArray
noncomputable def eszBI (l : List ByteArray) : Bool := decide (1 ≤ l.length) && bok ((l.headD ByteArray.empty).size : Int) l
noncomputable def eszB : List ByteArray → Bool := Classical.choose (⟨eszBI, rfl⟩ : ∃ f, f = eszBI)
theorem eszB_eq : eszB = eszBI := Classical.choose_spec (⟨eszBI, rfl⟩ : ∃ f, f = eszBI)
noncomputable def eszNI (l : List ByteArray) : Int := if l.length = 0 then 0 else (((l.headD ByteArray.empty).size : Nat) : Int)
noncomputable def eszN : List ByteArray → Int := Classical.choose (⟨eszNI, rfl⟩ : ∃ f, f = eszNI)
theorem eszN_eq : eszN = eszNI := Classical.choose_spec (⟨eszNI, rfl⟩ : ∃ f, f = eszNI)
noncomputable def emII (l : List ByteArray) (d : Int) : Int := if eszB l = true then d else 0
noncomputable def emI : List ByteArray → Int → Int := Classical.choose (⟨emII, rfl⟩ : ∃ f, f = emII)
theorem emI_eq : emI = emII := Classical.choose_spec (⟨emII, rfl⟩ : ∃ f, f = emII)
noncomputable def emSI (l : List ByteArray) (d : Int) : ByteArray := if eszB l = true then txt (sumS (eszN l) (pickL l (ofS (l.length : Int) (nbS (l.length : Int) d)))) else ByteArray.empty
noncomputable def emS : List ByteArray → Int → ByteArray := Classical.choose (⟨emSI, rfl⟩ : ∃ f, f = emSI)
theorem emS_eq : emS = emSI := Classical.choose_spec (⟨emSI, rfl⟩ : ∃ f, f = emSI)
noncomputable def manyLI (l : List ByteArray) (t : List Int) : List Sy := t.map fun d => (emI l d, emS l d)
noncomputable def manyL : List ByteArray → List Int → List Sy := Classical.choose (⟨manyLI, rfl⟩ : ∃ f, f = manyLI)
theorem manyL_eq : manyL = manyLI := Classical.choose_spec (⟨manyLI, rfl⟩ : ∃ f, f = manyLI)
noncomputable def manyEI (l : List ByteArray) (t : List Int) : Int := if eszB l = true then (if t.length ≤ 64 then 0 else 2) else 1
noncomputable def manyE : List ByteArray → List Int → Int := Classical.choose (⟨manyEI, rfl⟩ : ∃ f, f = manyEI)
theorem manyE_eq : manyE = manyEI := Classical.choose_spec (⟨manyEI, rfl⟩ : ∃ f, f = manyEI)
noncomputable def manySI (l : List ByteArray) (t : List Int) : List Sy := if manyE l t = 0 then manyL l t else []
noncomputable def manyS : List ByteArray → List Int → List Sy := Classical.choose (⟨manySI, rfl⟩ : ∃ f, f = manySI)
theorem manyS_eq : manyS = manySI := Classical.choose_spec (⟨manySI, rfl⟩ : ∃ f, f = manySI)
noncomputable def eqSyI (a b : List Sy) : Bool := decide (a = b)
noncomputable def eqSy : List Sy → List Sy → Bool := Classical.choose (⟨eqSyI, rfl⟩ : ∃ f, f = eqSyI)
theorem eqSy_eq : eqSy = eqSyI := Classical.choose_spec (⟨eqSyI, rfl⟩ : ∃ f, f = eqSyI)
noncomputable def eblI (l : List ByteArray) : List ByteArray := (l.take 66).map fun s => s.extract 0 (min s.size 66)
noncomputable def eblS : List ByteArray → List ByteArray := Classical.choose (⟨eblI, rfl⟩ : ∃ f, f = eblI)
theorem eblS_eq : eblS = eblI := Classical.choose_spec (⟨eblI, rfl⟩ : ∃ f, f = eblI)
theorem eszB_iff {l : List ByteArray} : eszB l = true ↔ 1 ≤ l.length ∧ bok ((l.headD ByteArray.empty).size : Int) l = true := by rw [eszB_eq]; unfold eszBI; simp
theorem esz_head {l : List ByteArray} (h : 1 ≤ l.length) : ix l 0 = some (l.headD ByteArray.empty) := by
  cases l with
  | nil => simp at h
  | cons a t => rfl
theorem esz_n {l : List ByteArray} (h : 1 ≤ l.length) : eszN l = (((l.headD ByteArray.empty).size : Nat) : Int) := by rw [eszN_eq]; unfold eszNI; rw [if_neg (by omega)]
/-- What a symbol's row picks. -/
theorem em_row {l : List ByteArray} (h : eszB l = true) (d : Int) : (1 ≤ (l.length : Int) ∧ (l.length : Int) ≤ 64) ∧ okW (ofS (l.length : Int) (nbS (l.length : Int) d)) = true ∧ rtS (l.length : Int) (ofS (l.length : Int) (nbS (l.length : Int) d)) = true := by
  obtain ⟨h1, h2⟩ := eszB_iff.1 h
  obtain ⟨_, b2, _⟩ := bok_iff.1 h2
  have hk : 1 ≤ (l.length : Int) ∧ (l.length : Int) ≤ 64 := by omega
  exact ⟨hk, okW_iff.2 (of_ok _ _), rt_of (fun x hx => nb_range hk.1 hk.2 hx) (by omega) (by omega)⟩
theorem em_pick {l : List ByteArray} (h : eszB l = true) (d : Int) : pickT (eszN l) l (l.length : Int) (ofS (l.length : Int) (nbS (l.length : Int) d)) = emS l d := by
  obtain ⟨h1, h2⟩ := eszB_iff.1 h
  obtain ⟨_, _, h5⟩ := em_row h d
  have hE : pickE (eszN l) l (l.length : Int) (ofS (l.length : Int) (nbS (l.length : Int) d)) = 0 := by
    rw [pickE_eq]; unfold pickEI
    rw [esz_n h1, if_pos h2, if_pos ⟨h5, rfl⟩]
  rw [pickT_eq, emS_eq]; unfold pickTI emSI
  rw [if_pos hE, if_pos h]
theorem many_ok {l : List ByteArray} {t : List Int} (h1 : eszB l = true) (h2 : t.length ≤ 64) : manyE l t = 0 ∧ manyS l t = manyL l t := by
  have : manyE l t = 0 := by rw [manyE_eq]; unfold manyEI; rw [if_pos h1, if_pos h2]
  refine ⟨this, ?_⟩
  rw [manyS_eq]; unfold manySI; rw [if_pos this]
theorem many_no {l : List ByteArray} {t : List Int} {e : Int} (h : manyE l t = e) (he : e ≠ 0) : manyS l t = [] := by
  rw [manyS_eq]; unfold manySI; rw [h, if_neg he]
theorem u64_of {t : List Int} (h : okW t = true) {x : Int} (hx : x ∈ t) : (decide (0 ≤ x) && decide (x < 18446744073709551616)) = true := by
  have := okW_iff.1 h x hx
  simp; omega
theorem up_to (n : Nat) (k : Nat) {c : Int} (h : c = (k : Int)) : upTo (min ((n : Nat) : Int) c) n = some (min n k) := by subst h; rw [upTo_of (by omega) (by omega)]; congr 1; omega
theorem take_toE {α : Type} (l : List α) (k : Nat) : (l.drop 0).take (min l.length k - 0) = l.take k := by
  rw [List.drop_zero, Nat.sub_zero]
  by_cases h : l.length ≤ k
  · rw [Nat.min_eq_left h, List.take_length, List.take_of_length_le h]
  · rw [Nat.min_eq_right (by omega)]
/-! downpour/encode.size -/
noncomputable def esizeF_s1 {R : Type} (l : List ByteArray) (c0 : Int → Bool → Option R) : Option R :=
  br (decide ((((l.length : Nat) : Int) : Int) < 1))
    (c0 0 false)
    (bnd (ix l 0) fun e3 =>
    c0 ((e3.size : Nat) : Int) (((errB ((e3.size : Nat) : Int) l) : Int) == 0))
theorem esizeF_s1_eq (fuel : Nat)  (l : List ByteArray) : callN Tryd.prog mode19 T_refBits fuel 100 [.ls l] [] = esizeF_s1 l (fun a1 a2 => some (.tup [vI a1, vB a2], [])) := by kernel_rfl
noncomputable def esizeF {R : Type} (fuel : Nat) (l : List ByteArray) (r0 : Int → Bool → Option R) : Option R :=
  (esizeF_s1 l (fun a1 a2 => r0 a1 a2))
theorem esizeF_eq (fuel : Nat) (l : List ByteArray) : callN Tryd.prog mode19 T_refBits fuel 100 [.ls l] [] = esizeF fuel l (fun z0 z1 => some (.tup [.s (.int .i64 z0), .s (.bool z1)], [])) := by
  unfold esizeF
  exact (esizeF_s1_eq fuel  l)
theorem esize_fact (l : List ByteArray) : Fact Tryd.prog gTab 100 [.ls l] [] (.tup [.s (.int .i64 (eszN l)), .s (.bool (eszB l))], []) := by
  refine callN_fact hN hM T_refBits_ok (n := 0) (mode := mode19) ?_
  rw [esizeF_eq]
  unfold esizeF esizeF_s1
  rw [br_if, eszN_eq, eszB_eq]
  unfold eszNI eszBI errB
  by_cases h : l.length = 0
  · rw [if_pos (by simp [h]), if_pos h, decide_eq_false (by omega : ¬ 1 ≤ l.length)]; rfl
  · rw [if_neg (by simp; omega), if_neg h, bnd_of (esz_head (by omega)), decide_eq_true (by omega : 1 ≤ l.length), Bool.true_and]
    by_cases hb : bok (((l.headD ByteArray.empty).size : Nat) : Int) l = true
    · rw [if_pos hb, hb]; rfl
    · rw [if_neg hb, Bool.eq_false_iff.2 hb]; rfl
noncomputable def esize_ent : List V → List Blk → Option (Bool × Out)
  | [w0], [] => (asSl .str w0).bind fun l => some (true, (.tup [.s (.int .i64 (eszN l)), .s (.bool (eszB l))], []))
  | _, _ => none
theorem esize_ok : ∀ args bs out, esize_ent args bs = some (true, out) → Fact Tryd.prog gTab 100 args bs out := by
  intro args bs out h
  unfold esize_ent at h
  split at h
  · rename_i w0
    obtain ⟨l, h_l, h⟩ := Option.bind_eq_some_iff.1 h
    simp only [Option.some.injEq, Prod.mk.injEq] at h
    obtain ⟨_, rfl⟩ := h
    exact (esize_fact l).args (fun _ _ _ => fun _ h => RVs_two (fun _ h => RV_ls h_l h) (fun _ h => h) h)
  · cases h
noncomputable def T_esize : Tbl := Tbl.cons 100 esize_ent T_refBits
theorem T_esize_ok : CallOk Tryd.prog gTab T_esize := cons_ok T_refBits_ok esize_ok
/-! downpour/encode.Make -/
noncomputable def EMakeF_s1 {R : Type} (l : List ByteArray) (d : Int) (c0 : Int → ByteArray → Int → Option R) : Option R :=
  br (!(eszB l))
    (c0 0 ByteArray.empty 1)
    (grd (decide (0 ≤ d) && decide (d < 18446744073709551616)) <|
    grd (okW (if (decide (1 ≤ ((l.length : Nat) : Int)) && decide (((l.length : Nat) : Int) ≤ 64)) = true then ofS ((l.length : Nat) : Int) (nbS ((l.length : Nat) : Int) d) else [])) <|
    c0 d (pickT (eszN l) l (if (decide (1 ≤ ((l.length : Nat) : Int)) && decide (((l.length : Nat) : Int) ≤ 64)) = true then ((l.length : Nat) : Int) else 0) (if (decide (1 ≤ ((l.length : Nat) : Int)) && decide (((l.length : Nat) : Int) ≤ 64)) = true then ofS ((l.length : Nat) : Int) (nbS ((l.length : Nat) : Int) d) else [])) 0)
theorem EMakeF_s1_eq (fuel : Nat)  (l : List ByteArray) (d : Int) : callN Tryd.prog mode19 T_esize fuel 45 [.ls l, vU d] [] = EMakeF_s1 l d (fun a1 a2 a3 => some (.tup [.agg [vU a1, vS a2], vI a3], [])) := by kernel_rfl
noncomputable def EMakeF {R : Type} (fuel : Nat) (l : List ByteArray) (d : Int) (r0 : Int → ByteArray → Int → Option R) : Option R :=
  (EMakeF_s1 l d (fun a1 a2 a3 => r0 a1 a2 a3))
theorem EMakeF_eq (fuel : Nat) (l : List ByteArray) (d : Int) : callN Tryd.prog mode19 T_esize fuel 45 [.ls l, .s (.int .u64 d)] [] = EMakeF fuel l d (fun z0 z1 z2 => some (.tup [.agg [.s (.int .u64 z0), .s (.string z1)], .s (.int .i64 z2)], [])) := by
  unfold EMakeF
  exact (EMakeF_s1_eq fuel  l d)
theorem EMake_fact (l : List ByteArray) (d : Int) (hg : (decide (0 ≤ d) && decide (d < 18446744073709551616)) = true) : Fact Tryd.prog gTab 45 [.ls l, .s (.int .u64 d)] [] (.tup [.agg [.s (.int .u64 (emI l d)), .s (.string (emS l d))], .s (.int .i64 (if eszB l = true then 0 else 1))], []) := by
  refine callN_fact hN hM T_esize_ok (n := 0) (mode := mode19) ?_
  rw [EMakeF_eq]
  unfold EMakeF EMakeF_s1
  rw [br_if]
  by_cases h : eszB l = true
  · obtain ⟨⟨h1, h2⟩, h3, h4⟩ := em_row h d
    have hk : (decide (1 ≤ ((l.length : Nat) : Int)) && decide (((l.length : Nat) : Int) ≤ 64)) = true := by simp only [Bool.and_eq_true, decide_eq_true_eq]; exact ⟨h1, h2⟩
    rw [if_neg (by simp [h]), grd_of hg, hk, if_pos rfl, if_pos rfl, grd_of h3, em_pick h, if_pos h, emI_eq]
    unfold emII
    rw [if_pos h]
  · rw [if_pos (by simp [h]), if_neg h, emI_eq, emS_eq]
    unfold emII emSI
    rw [if_neg h, if_neg h]
noncomputable def EMake_ent : List V → List Blk → Option (Bool × Out)
  | [w0, .s (.int .u64 d)], [] => (asSl .str w0).bind fun l => some ((decide (0 ≤ d) && decide (d < 18446744073709551616)), (.tup [.agg [.s (.int .u64 (emI l d)), .s (.string (emS l d))], .s (.int .i64 (if eszB l = true then 0 else 1))], []))
  | _, _ => none
theorem EMake_ok : ∀ args bs out, EMake_ent args bs = some (true, out) → Fact Tryd.prog gTab 45 args bs out := by
  intro args bs out h
  unfold EMake_ent at h
  split at h
  · rename_i w0 d
    obtain ⟨l, h_l, h⟩ := Option.bind_eq_some_iff.1 h
    simp only [Option.some.injEq, Prod.mk.injEq] at h
    obtain ⟨hg, rfl⟩ := h
    exact (EMake_fact l d hg).args (fun _ _ _ => fun _ h => RVs_two (fun _ h => RV_ls h_l h) (fun _ h => h) h)
  · cases h
noncomputable def T_EMake : Tbl := Tbl.cons 45 EMake_ent T_esize
theorem T_EMake_ok : CallOk Tryd.prog gTab T_EMake := cons_ok T_esize_ok EMake_ok
/-! downpour/encode.Many -/
noncomputable abbrev qe0 : Code := (sub (bodyOf Tryd.prog 46) [1, 1, 1, 1, 0, 1, 0, 0])
noncomputable abbrev qe1 (fuel : Nat) : Ctx Out := (fnX Tryd.prog mode19 T_EMake fuel 41 0)
noncomputable abbrev qe2 : List Nat := [0, 4, 5, 8, 23, 24, 25]
noncomputable def EManyF_s3 {R : Type} (w0 w3 : Int) (t : List Int) (w1 : List (Int × ByteArray)) (w2 : Nat) (l : List ByteArray) (c0 : Nat → Int → (List (Int × ByteArray)) → Option R) (c1 : Nat → (List (Int × ByteArray)) → Option R) : Option R :=
  br (decide (w0 < w3))
    (bnd (ix t w0) fun e0 =>
    grd (decide (0 ≤ e0) && decide (e0 < 18446744073709551616)) <|
    grd (Nat.beq w1.length w2) <|
    grd (okN (w2 + 1) 24) <|
    c0 ((w1 ++ [((emI l e0), (emS l e0))]).length) (IntKind.i64.wrap (w0 + 1)) (w1 ++ [((emI l e0), (emS l e0))]))
    (c1 w2 w1)
theorem EManyF_s3_eq (fuel k : Nat) (K : Ex → St → Option Out) (w0 w3 : Int) (t : List Int) (w1 : List (Int × ByteArray)) (w2 : Nat) (l : List ByteArray) : lpN qe0 (qe1 fuel) 1099511628080 qe2 (k + 1) ⟨[(0, .ls l), (4, vN), (5, vI 0), (8, .sl 0 2 0 w2), (23, vW t), (24, vI w3), (25, vI w0)], [(0, some ⟨82, .lt (.pair (.int .u64) .str) w1, true⟩)], 1, none⟩ K = EManyF_s3 w0 w3 t w1 w2 l (fun a0 a1 a2 => lpN qe0 (qe1 fuel) 1099511628080 qe2 k ⟨[(0, .ls l), (4, vN), (5, vI 0), (8, .sl 0 2 0 a0), (23, vW t), (24, vI w3), (25, vI a1)], [(0, some ⟨82, .lt (.pair (.int .u64) .str) a2, true⟩)], 1, none⟩ K) (fun a3 a4 => K (.exit 0) ⟨[(4, vN), (5, vI 0), (8, .sl 0 2 0 a3)], [(0, some ⟨82, .lt (.pair (.int .u64) .str) a4, true⟩)], 1, none⟩) := by kernel_rfl
noncomputable def EManyF_l2 {R : Type} (fuel : Nat) (l : List ByteArray) (t : List Int) (w3 : Int) (k0 : Nat → (List (Int × ByteArray)) → Option R) : Nat → Nat → Int → (List (Int × ByteArray)) → Option R
  | 0, _, _, _ => none
  | k + 1, w0, w1, w2 =>
    (EManyF_s3 w1 w3 t w2 w0 l (fun a0 a1 a2 => ( EManyF_l2 fuel l t w3 k0 k a0 a1 a2 )) (fun a3 a4 => k0 a3 a4))
theorem EManyF_l2_eq (fuel : Nat) (l : List ByteArray) (t : List Int) (w3 : Int) (K : Ex → St → Option Out) : ∀ (k w0 : Nat) (w1 : Int) (w2 : List (Int × ByteArray)), lpN qe0 (qe1 fuel) 1099511628080 qe2 k ⟨[(0, .ls l), (4, vN), (5, vI 0), (8, .sl 0 2 0 w0), (23, vW t), (24, vI w3), (25, vI w1)], [(0, some ⟨82, .lt (.pair (.int .u64) .str) w2, true⟩)], 1, none⟩ K = EManyF_l2 fuel l t w3 (fun y0 y1 => K (.exit 0) ⟨[(4, vN), (5, vI 0), (8, .sl 0 2 0 y0)], [(0, some ⟨82, .lt (.pair (.int .u64) .str) y1, true⟩)], 1, none⟩) k w0 w1 w2
  | 0, _, _, _ => rfl
  | k + 1, w0, w1, w2 => by
    unfold EManyF_l2
    exact (EManyF_s3_eq fuel k K w1 w3 t w2 w0 l).trans (congr (congr (Eq.refl (EManyF_s3 (R := Out) w1 w3 t w2 w0 l)) (funext fun a0 => funext fun a1 => funext fun a2 => EManyF_l2_eq fuel l t w3 K k a0 a1 a2)) (rfl))
noncomputable def EManyF_s2 {R : Type} (w3 : Int) (t : List Int) (l : List ByteArray) (c0 : Nat → Int → (List (Int × ByteArray)) → Option R) (c1 : Option R) : Option R :=
  br (decide (0 < w3))
    (bnd (ix t 0) fun e0 =>
    grd (decide (0 ≤ e0) && decide (e0 < 18446744073709551616)) <|
    c0 1 1 ([((emI l e0), (emS l e0))]))
    (c1)
theorem EManyF_s2_eq (fuel k : Nat) (K : Ex → St → Option Out) (w3 : Int) (t : List Int) (l : List ByteArray) : lpN qe0 (qe1 fuel) 1099511628080 qe2 (k + 1) ⟨[(0, .ls l), (4, vN), (5, vI 0), (8, vN), (23, vW t), (24, vI w3), (25, vI 0)], [], 0, none⟩ K = EManyF_s2 w3 t l (fun a0 a1 a2 => lpN qe0 (qe1 fuel) 1099511628080 qe2 k ⟨[(0, .ls l), (4, vN), (5, vI 0), (8, .sl 0 2 0 a0), (23, vW t), (24, vI w3), (25, vI a1)], [(0, some ⟨82, .lt (.pair (.int .u64) .str) a2, true⟩)], 1, none⟩ K) (K (.exit 0) ⟨[(4, vN), (5, vI 0), (8, vN)], [], 0, none⟩) := by kernel_rfl
noncomputable def EManyF_l1 {R : Type} (fuel : Nat) (l : List ByteArray) (t : List Int) (k0 : Nat → (List (Int × ByteArray)) → Option R) (k1 : Option R) : Nat → Int → Option R
  | 0, _ => none
  | k + 1, w3 =>
    (EManyF_s2 w3 t l (fun a0 a1 a2 => (EManyF_l2 fuel l t w3 (fun x0 x1 => k0 x0 x1) k a0 a1 a2)) (k1))
theorem EManyF_l1_eq (fuel : Nat) (l : List ByteArray) (t : List Int) (K : Ex → St → Option Out) : ∀ (k : Nat) (w3 : Int), lpN qe0 (qe1 fuel) 1099511628080 qe2 k ⟨[(0, .ls l), (4, vN), (5, vI 0), (8, vN), (23, vW t), (24, vI w3), (25, vI 0)], [], 0, none⟩ K = EManyF_l1 fuel l t (fun y0 y1 => K (.exit 0) ⟨[(4, vN), (5, vI 0), (8, .sl 0 2 0 y0)], [(0, some ⟨82, .lt (.pair (.int .u64) .str) y1, true⟩)], 1, none⟩) (K (.exit 0) ⟨[(4, vN), (5, vI 0), (8, vN)], [], 0, none⟩) k w3
  | 0, _ => rfl
  | k + 1, w3 => by
    unfold EManyF_l1
    exact (EManyF_s2_eq fuel k K w3 t l).trans (congr (congr (Eq.refl (EManyF_s2 (R := Out) w3 t l)) (funext fun a0 => funext fun a1 => funext fun a2 => EManyF_l2_eq fuel l t w3 K k a0 a1 a2)) (rfl))
noncomputable def EManyF_s4 {R : Type} (x0 : List (Int × ByteArray)) (x1 : Nat) (c0 : (List (Int × ByteArray)) → Int → Option R) : Option R :=
  c0 ((x0.drop 0).take x1) 0
theorem EManyF_s4_eq (fuel : Nat)  (x0 : List (Int × ByteArray)) (x1 : Nat) : (kont (qe1 fuel) (bodyOf Tryd.prog 46) [1, 1, 1, 1, 0, 1, 0] 48 (endK Tryd.prog 0 0 46)) (.exit 0) ⟨[(4, vN), (5, vI 0), (8, .sl 0 2 0 x1)], [(0, some ⟨82, .lt (.pair (.int .u64) .str) x0, true⟩)], 1, none⟩ = EManyF_s4 x0 x1 (fun a0 a1 => some (.tup [.lt (.pair (.int .u64) .str) a0, vI a1], [])) := by kernel_rfl
noncomputable def EManyF_s5 {R : Type}  (c0 : Int → Option R) : Option R :=
  c0 0
theorem EManyF_s5_eq (fuel : Nat)   : (kont (qe1 fuel) (bodyOf Tryd.prog 46) [1, 1, 1, 1, 0, 1, 0] 48 (endK Tryd.prog 0 0 46)) (.exit 0) ⟨[(4, vN), (5, vI 0), (8, vN)], [], 0, none⟩ = EManyF_s5  (fun a0 => some (.tup [vN, vI a0], [])) := by kernel_rfl
noncomputable def EManyF_s1 {R : Type} (l : List ByteArray) (t : List Int) (c0 c1 : Int → Option R) : Option R :=
  br (!(eszB l))
    (c0 1)
    (br (decide ((((t.length : Nat) : Int) : Int) > 64))
      (c0 2)
      (c1 ((t.length : Nat) : Int)))
theorem EManyF_s1_eq (fuel : Nat)  (l : List ByteArray) (t : List Int) : callN Tryd.prog mode19 T_EMake fuel 46 [.ls l, vW t] [] = EManyF_s1 l t (fun a1 => some (.tup [vN, vI a1], [])) (fun a0 => lpN qe0 (qe1 fuel) 1099511628080 qe2 fuel ⟨[(0, .ls l), (4, vN), (5, vI 0), (8, vN), (23, vW t), (24, vI a0), (25, vI 0)], [], 0, none⟩ (kont (qe1 fuel) (bodyOf Tryd.prog 46) [1, 1, 1, 1, 0, 1, 0] 48 (endK Tryd.prog 0 0 46))) := by kernel_rfl
noncomputable def EManyF {R : Type} (fuel : Nat) (l : List ByteArray) (t : List Int) (r0 : Int → Option R) (r1 : (List (Int × ByteArray)) → Int → Option R) : Option R :=
  (EManyF_s1 l t (fun a1 => r0 a1) (fun a0 => (EManyF_l1 fuel l t (fun x0 x1 => (EManyF_s4 x1 x0 (fun a2 a3 => r1 a2 a3))) ((EManyF_s5 (fun a4 => r0 a4))) fuel a0)))
theorem EManyF_eq (fuel : Nat) (l : List ByteArray) (t : List Int) : callN Tryd.prog mode19 T_EMake fuel 46 [.ls l, .li .u64 t] [] = EManyF fuel l t (fun z0 => some (.tup [.s (.slice none 0 0), .s (.int .i64 z0)], [])) (fun z0 z1 => some (.tup [.lt (.pair (.int .u64) .str) z0, .s (.int .i64 z1)], [])) := by
  unfold EManyF
  exact (EManyF_s1_eq fuel  l t).trans (congr (congr (Eq.refl (EManyF_s1 (R := Out) l t)) (rfl)) (funext fun a0 => (EManyF_l1_eq fuel l t (kont (qe1 fuel) (bodyOf Tryd.prog 46) [1, 1, 1, 1, 0, 1, 0] 48 (endK Tryd.prog 0 0 46)) fuel a0).trans (congrFun (congrFun (congr (congr (Eq.refl (EManyF_l1 (R := Out) fuel l t)) (funext fun x0 => funext fun x1 => (EManyF_s4_eq fuel  x1 x0))) ((EManyF_s5_eq fuel  ))) fuel) a0)))
theorem EMany_more {R : Type} (fuel : Nat) (l : List ByteArray) (t : List Int) (ht : t.length ≤ 64) (hok : okW t = true) (k0 : Nat → List Sy → Option R) : ∀ (k j : Nat) (acc : List Sy), j ≤ t.length → t.length < j + k → acc.length ≤ j →
    EManyF_l2 fuel l t (t.length : Int) k0 k acc.length (j : Int) acc = k0 (acc ++ (t.drop j).map (fun d => (emI l d, emS l d))).length (acc ++ (t.drop j).map (fun d => (emI l d, emS l d)))
  | 0, j, acc, h1, h2, _ => by omega
  | k + 1, j, acc, h1, h2, ha => by
    unfold EManyF_l2 EManyF_s3
    rw [br_if]
    by_cases hc : j < t.length
    · rw [if_pos (by simpa using hc), bnd_of ((ix_nat t j).trans (List.getElem?_eq_getElem hc)), grd_of (u64_of hok (List.getElem_mem hc)), grd_of (beq_self _), grd_of (okN_of (by omega) (by omega)), wrap_i64 (by omega) (by omega), show (j : Int) + 1 = ((j + 1 : Nat) : Int) by omega, List.drop_eq_getElem_cons hc, List.map_cons]
      have := EMany_more fuel l t ht hok k0 k (j + 1) (acc ++ [(emI l t[j], emS l t[j])]) (by omega) (by omega) (by simp; omega)
      rw [List.append_assoc] at this
      exact this
    · rw [if_neg (by simpa using hc), List.drop_eq_nil_of_le (by omega)]
      simp
theorem EMany_fst {R : Type} (fuel : Nat) (l : List ByteArray) (t : List Int) (ht : t.length ≤ 64) (hok : okW t = true) (k0 : Nat → List Sy → Option R) (k1 : Option R) (k : Nat) (hk : t.length + 1 < k) :
    EManyF_l1 fuel l t k0 k1 k (t.length : Int) = if t.length = 0 then k1 else k0 (t.map (fun d => (emI l d, emS l d))).length (t.map (fun d => (emI l d, emS l d))) := by
  cases k with
  | zero => omega
  | succ k =>
    unfold EManyF_l1 EManyF_s2
    dsimp only
    rw [br_if]
    by_cases hy : 0 < t.length
    · have e0 : ix t 0 = some t[0] := (ix_nat t 0).trans (List.getElem?_eq_getElem hy)
      rw [if_pos (by simpa using hy), if_neg (by omega), bnd_of e0, grd_of (u64_of hok (List.getElem_mem hy))]
      have ho := EMany_more (R := R) fuel l t ht hok k0 k 1 [(emI l t[0], emS l t[0])] (by omega) (by omega) (by simp)
      have hy1 : [(emI l t[0], emS l t[0])] ++ (t.drop 1).map (fun d => (emI l d, emS l d)) = t.map (fun d => (emI l d, emS l d)) := by
        cases t with
        | nil => simp at hy
        | cons a t => rfl
      rw [hy1] at ho
      exact ho
    · rw [if_neg (by simpa using hy), if_pos (by omega)]
theorem EMany_fact (l : List ByteArray) (t : List Int) (hg : (okW t) = true) : Fact Tryd.prog gTab 46 [.ls l, .li .u64 t] [] (.tup [.lt (.pair (.int .u64) .str) ((manyS l t) : List (Int × ByteArray)), .s (.int .i64 (manyE l t))], []) := by
  have hno : ∀ e : Int, e ≠ 0 → manyE l t = e → callN Tryd.prog mode19 T_EMake 0 46 [.ls l, .li .u64 t] [] = some (.tup [.s (.slice none 0 0), .s (.int .i64 e)], []) → Fact Tryd.prog gTab 46 [.ls l, .li .u64 t] [] (.tup [.lt (.pair (.int .u64) .str) ((manyS l t) : List (Int × ByteArray)), .s (.int .i64 (manyE l t))], []) := fun e he hE hw => by
    rw [many_no hE he, hE]
    exact (callN_fact hN hM T_EMake_ok hw).out fun _ _ _ x h => RV_tup_two (fun _ h => RVs_two (fun _ h => RV_nil_sl (s := .pair (.int .u64) .str) h) (fun _ h => h) h) h
  by_cases h : eszB l = true
  · by_cases ht : t.length ≤ 64
    · obtain ⟨e1, e2⟩ := many_ok h ht
      have hwalk : callN Tryd.prog mode19 T_EMake 70 46 [.ls l, .li .u64 t] [] = if t.length = 0 then some (.tup [.s (.slice none 0 0), .s (.int .i64 0)], []) else some (.tup [.lt (.pair (.int .u64) .str) (manyL l t : List (Int × ByteArray)), .s (.int .i64 0)], []) := by
        rw [EManyF_eq]
        unfold EManyF EManyF_s1
        rw [br_if, if_neg (by simp [h]), br_if, if_neg (by simp; omega)]
        have h1 := fun k0 k1 => EMany_fst (R := Out) 70 l t ht hg k0 k1 70 (by omega)
        dsimp only
        rw [h1]
        by_cases g : t.length = 0
        · rw [if_pos g, if_pos g]; rfl
        · rw [if_neg g, if_neg g]
          unfold EManyF_s4
          rw [List.drop_zero, List.take_length, manyL_eq]; rfl
      rw [e1, e2]
      by_cases g : t.length = 0
      · rw [if_pos g] at hwalk
        have : manyL l t = [] := by rw [manyL_eq, List.eq_nil_of_length_eq_zero g]; rfl
        rw [this]
        exact (callN_fact hN hM T_EMake_ok hwalk).out fun _ _ _ x h => RV_tup_two (fun _ h => RVs_two (fun _ h => RV_nil_sl (s := .pair (.int .u64) .str) h) (fun _ h => h) h) h
      · rw [if_neg g] at hwalk
        exact callN_fact hN hM T_EMake_ok hwalk
    · refine hno 2 (by decide) (by rw [manyE_eq]; unfold manyEI; rw [if_pos h, if_neg ht]) ?_
      rw [EManyF_eq]
      unfold EManyF EManyF_s1
      rw [br_if, if_neg (by simp [h]), br_if, if_pos (by simp; omega)]
  · refine hno 1 (by decide) (by rw [manyE_eq]; unfold manyEI; rw [if_neg h]) ?_
    rw [EManyF_eq]
    unfold EManyF EManyF_s1
    rw [br_if, if_pos (by simp [h])]
noncomputable def EMany_ent : List V → List Blk → Option (Bool × Out)
  | [w0, w1], [] => (asSl .str w0).bind fun l => (asSl (.int .u64) w1).bind fun t => some ((okW t), (.tup [.lt (.pair (.int .u64) .str) ((manyS l t) : List (Int × ByteArray)), .s (.int .i64 (manyE l t))], []))
  | _, _ => none
theorem EMany_ok : ∀ args bs out, EMany_ent args bs = some (true, out) → Fact Tryd.prog gTab 46 args bs out := by
  intro args bs out h
  unfold EMany_ent at h
  split at h
  · rename_i w0 w1
    obtain ⟨l, h_l, h⟩ := Option.bind_eq_some_iff.1 h
    obtain ⟨t, h_t, h⟩ := Option.bind_eq_some_iff.1 h
    simp only [Option.some.injEq, Prod.mk.injEq] at h
    obtain ⟨hg, rfl⟩ := h
    exact (EMany_fact l t hg).args (fun _ _ _ => fun _ h => RVs_two (fun _ h => RV_ls h_l h) (fun _ h => RVs_two (fun _ h => RV_li h_t h) (fun _ h => h) h) h)
  · cases h
noncomputable def T_EMany : Tbl := Tbl.cons 46 EMany_ent T_EMake
theorem T_EMany_ok : CallOk Tryd.prog gTab T_EMany := cons_ok T_EMake_ok EMany_ok
def mode20 : FuncId → Nat := fun f => 0
/-! downpour/downpourref09.Right -/
noncomputable def refERightF_s1 {R : Type} (l : List ByteArray) (c0 : Bool → Option R) : Option R :=
  br (decide ((((l.length : Nat) : Int) : Int) ≥ 1))
    (bnd (ix l 0) fun e1 =>
    c0 (((errB ((e1.size : Nat) : Int) l) : Int) == 0))
    (c0 false)
theorem refERightF_s1_eq (fuel : Nat)  (l : List ByteArray) : callN Tryd.prog mode20 T_EMany fuel 47 [.ls l] [] = refERightF_s1 l (fun a2 => some (vB a2, [])) := by kernel_rfl
noncomputable def refERightF {R : Type} (fuel : Nat) (l : List ByteArray) (r0 : Bool → Option R) : Option R :=
  (refERightF_s1 l (fun a2 => r0 a2))
theorem refERightF_eq (fuel : Nat) (l : List ByteArray) : callN Tryd.prog mode20 T_EMany fuel 47 [.ls l] [] = refERightF fuel l (fun z0 => some (.s (.bool z0), [])) := by
  unfold refERightF
  exact (refERightF_s1_eq fuel  l)
theorem refERight_fact (l : List ByteArray) : Fact Tryd.prog gTab 47 [.ls l] [] (.s (.bool (eszB l)), []) := by
  refine callN_fact hN hM T_EMany_ok (n := 0) (mode := mode20) ?_
  rw [refERightF_eq]
  unfold refERightF refERightF_s1
  rw [br_if, eszB_eq]
  unfold eszBI errB
  by_cases h : l.length = 0
  · rw [if_neg (by simp [h]), decide_eq_false (by omega : ¬ 1 ≤ l.length)]; rfl
  · rw [if_pos (by simp; omega), bnd_of (esz_head (by omega)), decide_eq_true (by omega : 1 ≤ l.length), Bool.true_and]
    by_cases hb : bok (((l.headD ByteArray.empty).size : Nat) : Int) l = true
    · rw [if_pos hb, hb]; rfl
    · rw [if_neg hb, Bool.eq_false_iff.2 hb]; rfl
noncomputable def refERight_ent : List V → List Blk → Option (Bool × Out)
  | [w0], [] => (asSl .str w0).bind fun l => some (true, (.s (.bool (eszB l)), []))
  | _, _ => none
theorem refERight_ok : ∀ args bs out, refERight_ent args bs = some (true, out) → Fact Tryd.prog gTab 47 args bs out := by
  intro args bs out h
  unfold refERight_ent at h
  split at h
  · rename_i w0
    obtain ⟨l, h_l, h⟩ := Option.bind_eq_some_iff.1 h
    simp only [Option.some.injEq, Prod.mk.injEq] at h
    obtain ⟨_, rfl⟩ := h
    exact (refERight_fact l).args (fun _ _ _ => fun _ h => RVs_two (fun _ h => RV_ls h_l h) (fun _ h => h) h)
  · cases h
noncomputable def T_refERight : Tbl := Tbl.cons 47 refERight_ent T_EMany
theorem T_refERight_ok : CallOk Tryd.prog gTab T_refERight := cons_ok T_EMany_ok refERight_ok
/-! downpour/downpourref09.Make -/
noncomputable def refEMakeF_s1 {R : Type} (l : List ByteArray) (d : Int) (c0 : Int → ByteArray → Option R) : Option R :=
  grd ((decide (1 ≤ ((l.length : Nat) : Int)) && decide (((l.length : Nat) : Int) ≤ 64)) && (decide (0 ≤ d) && decide (d < 18446744073709551616))) <|
  grd (okW (ofS ((l.length : Nat) : Int) (nbS ((l.length : Nat) : Int) d)) && decide (((l.length : Nat) : Int) ≤ 64 * ((ofS ((l.length : Nat) : Int) (nbS ((l.length : Nat) : Int) d)).length : Int)) && decide ((ofS ((l.length : Nat) : Int) (nbS ((l.length : Nat) : Int) d)).length ≤ 1000)) <|
  bnd (ix l 0) fun e1 =>
  grd (bok ((e1.size : Nat) : Int) l && decide ((bitsR ((l.length : Nat) : Int) (ofS ((l.length : Nat) : Int) (nbS ((l.length : Nat) : Int) d))).length = l.length)) <|
  c0 d (txt (sumBS ((e1.size : Nat) : Int) l (bitsR ((l.length : Nat) : Int) (ofS ((l.length : Nat) : Int) (nbS ((l.length : Nat) : Int) d)))))
theorem refEMakeF_s1_eq (fuel : Nat)  (l : List ByteArray) (d : Int) : callN Tryd.prog mode20 T_refERight fuel 49 [.ls l, vU d] [] = refEMakeF_s1 l d (fun a2 a3 => some (.agg [vU a2, vS a3], [])) := by kernel_rfl
noncomputable def refEMakeF {R : Type} (fuel : Nat) (l : List ByteArray) (d : Int) (r0 : Int → ByteArray → Option R) : Option R :=
  (refEMakeF_s1 l d (fun a2 a3 => r0 a2 a3))
theorem refEMakeF_eq (fuel : Nat) (l : List ByteArray) (d : Int) : callN Tryd.prog mode20 T_refERight fuel 49 [.ls l, .s (.int .u64 d)] [] = refEMakeF fuel l d (fun z0 z1 => some (.agg [.s (.int .u64 z0), .s (.string z1)], [])) := by
  unfold refEMakeF
  exact (refEMakeF_s1_eq fuel  l d)
theorem refEMake_fact (l : List ByteArray) (d : Int) (hg : ((decide (0 ≤ d) && decide (d < 18446744073709551616)) && eszB l) = true) : Fact Tryd.prog gTab 49 [.ls l, .s (.int .u64 d)] [] (.agg [.s (.int .u64 (emI l d)), .s (.string (emS l d))], []) := by
  rw [Bool.and_eq_true] at hg
  obtain ⟨hd, h⟩ := hg
  obtain ⟨⟨h1, h2⟩, h3, h4⟩ := em_row h d
  obtain ⟨g1, g2⟩ := eszB_iff.1 h
  have hk : (decide (1 ≤ ((l.length : Nat) : Int)) && decide (((l.length : Nat) : Int) ≤ 64)) = true := by simp only [Bool.and_eq_true, decide_eq_true_eq]; exact ⟨h1, h2⟩
  have hlen : (ofS (l.length : Int) (nbS (l.length : Int) d)).length = nw (l.length : Int) := of_len _ _
  have hn := nw_cast (n := (l.length : Int)) (by omega)
  refine callN_fact hN hM T_refERight_ok (n := 0) (mode := mode20) ?_
  rw [refEMakeF_eq]
  unfold refEMakeF refEMakeF_s1
  rw [grd_of (by rw [hk, hd]; rfl), grd_of (by rw [h3, hlen]; simp only [Bool.true_and, Bool.and_eq_true, decide_eq_true_eq]; omega), bnd_of (esz_head g1), grd_of (by rw [g2, bitsR_len, Int.toNat_natCast]; simp), sumB_pick h3 h4 rfl, emI_eq, emS_eq]
  unfold emII emSI
  rw [if_pos h, if_pos h, esz_n g1]
noncomputable def refEMake_ent : List V → List Blk → Option (Bool × Out)
  | [w0, .s (.int .u64 d)], [] => (asSl .str w0).bind fun l => some (((decide (0 ≤ d) && decide (d < 18446744073709551616)) && eszB l), (.agg [.s (.int .u64 (emI l d)), .s (.string (emS l d))], []))
  | _, _ => none
theorem refEMake_ok : ∀ args bs out, refEMake_ent args bs = some (true, out) → Fact Tryd.prog gTab 49 args bs out := by
  intro args bs out h
  unfold refEMake_ent at h
  split at h
  · rename_i w0 d
    obtain ⟨l, h_l, h⟩ := Option.bind_eq_some_iff.1 h
    simp only [Option.some.injEq, Prod.mk.injEq] at h
    obtain ⟨hg, rfl⟩ := h
    exact (refEMake_fact l d hg).args (fun _ _ _ => fun _ h => RVs_two (fun _ h => RV_ls h_l h) (fun _ h => h) h)
  · cases h
noncomputable def T_refEMake : Tbl := Tbl.cons 49 refEMake_ent T_refERight
theorem T_refEMake_ok : CallOk Tryd.prog gTab T_refEMake := cons_ok T_refERight_ok refEMake_ok
/-! downpour/downpourref09.Many -/
noncomputable abbrev qe3 (fuel : Nat) : Ctx Out := (fnX Tryd.prog mode20 T_refEMake fuel 23 0)
noncomputable abbrev qe4 : Code := (sub (bodyOf Tryd.prog 51) [1, 1, 0, 1, 0, 0])
noncomputable def refEManyF_s2 {R : Type} (w5 w4 : Int) (t : List Int) (l : List ByteArray) (w6 : List (Int × ByteArray)) (w3 : Nat) (c0 : Nat → Int → Int → (List (Int × ByteArray)) → Option R) (c1 : Nat → (List (Int × ByteArray)) → Option R) : Option R :=
  br (decide (w5 < w4))
    (bnd (ix t w5) fun e0 =>
    grd ((decide (0 ≤ e0) && decide (e0 < 18446744073709551616)) && eszB l) <|
    grd (Nat.beq w6.length w3) <|
    grd (okN (w3 + 1) 24) <|
    c0 ((w6 ++ [((emI l e0), (emS l e0))]).length) w4 (IntKind.i64.wrap (w5 + 1)) (w6 ++ [((emI l e0), (emS l e0))]))
    (c1 w3 w6)
theorem refEManyF_s2_eq (fuel k : Nat) (K : Ex → St → Option Out) (w5 w4 : Int) (t : List Int) (l : List ByteArray) (w6 : List (Int × ByteArray)) (w3 : Nat) : lpN qe4 (qe3 fuel) 4194352 [0, 4, 5, 9, 10, 11] (k + 1) ⟨[(0, .ls l), (4, vN), (5, .sl 0 2 0 w3), (9, vW t), (10, vI w4), (11, vI w5)], [(0, some ⟨82, .lt (.pair (.int .u64) .str) w6, true⟩)], 1, none⟩ K = refEManyF_s2 w5 w4 t l w6 w3 (fun a0 a1 a2 a3 => lpN qe4 (qe3 fuel) 4194352 [0, 4, 5, 9, 10, 11] k ⟨[(0, .ls l), (4, vN), (5, .sl 0 2 0 a0), (9, vW t), (10, vI a1), (11, vI a2)], [(0, some ⟨82, .lt (.pair (.int .u64) .str) a3, true⟩)], 1, none⟩ K) (fun a4 a5 => K (.exit 0) ⟨[(4, vN), (5, .sl 0 2 0 a4)], [(0, some ⟨82, .lt (.pair (.int .u64) .str) a5, true⟩)], 1, none⟩) := by kernel_rfl
noncomputable def refEManyF_l1 {R : Type} (fuel : Nat) (l : List ByteArray) (t : List Int) (k0 : Nat → (List (Int × ByteArray)) → Option R) : Nat → Nat → Int → Int → (List (Int × ByteArray)) → Option R
  | 0, _, _, _, _ => none
  | k + 1, w3, w4, w5, w6 =>
    (refEManyF_s2 w5 w4 t l w6 w3 (fun a0 a1 a2 a3 => ( refEManyF_l1 fuel l t k0 k a0 a1 a2 a3 )) (fun a4 a5 => k0 a4 a5))
theorem refEManyF_l1_eq (fuel : Nat) (l : List ByteArray) (t : List Int) (K : Ex → St → Option Out) : ∀ (k w3 : Nat) (w4 w5 : Int) (w6 : List (Int × ByteArray)), lpN qe4 (qe3 fuel) 4194352 [0, 4, 5, 9, 10, 11] k ⟨[(0, .ls l), (4, vN), (5, .sl 0 2 0 w3), (9, vW t), (10, vI w4), (11, vI w5)], [(0, some ⟨82, .lt (.pair (.int .u64) .str) w6, true⟩)], 1, none⟩ K = refEManyF_l1 fuel l t (fun y8 y9 => K (.exit 0) ⟨[(4, vN), (5, .sl 0 2 0 y8)], [(0, some ⟨82, .lt (.pair (.int .u64) .str) y9, true⟩)], 1, none⟩) k w3 w4 w5 w6
  | 0, _, _, _, _ => rfl
  | k + 1, w3, w4, w5, w6 => by
    unfold refEManyF_l1
    exact (refEManyF_s2_eq fuel k K w5 w4 t l w6 w3).trans (congr (congr (Eq.refl (refEManyF_s2 (R := Out) w5 w4 t l w6 w3)) (funext fun a0 => funext fun a1 => funext fun a2 => funext fun a3 => refEManyF_l1_eq fuel l t K k a0 a1 a2 a3)) (rfl))
noncomputable def refEManyF_s3 {R : Type} (x0 : List (Int × ByteArray)) (x1 : Nat) (c0 : (List (Int × ByteArray)) → Option R) : Option R :=
  c0 ((x0.drop 0).take x1)
theorem refEManyF_s3_eq (fuel : Nat)  (x0 : List (Int × ByteArray)) (x1 : Nat) : (kont (qe3 fuel) (bodyOf Tryd.prog 51) [1, 1, 0, 1, 0] 16 (endK Tryd.prog 0 0 51)) (.exit 0) ⟨[(4, vN), (5, .sl 0 2 0 x1)], [(0, some ⟨82, .lt (.pair (.int .u64) .str) x0, true⟩)], 1, none⟩ = refEManyF_s3 x0 x1 (fun a0 => some (.lt (.pair (.int .u64) .str) a0, [])) := by kernel_rfl
noncomputable def refEManyF_s1 {R : Type} (t : List Int) (l : List ByteArray) (c0 : Nat → Int → Int → (List (Int × ByteArray)) → Option R) : Option R :=
  c0 0 ((t.length : Nat) : Int) 0 ([])
theorem refEManyF_s1_eq (fuel : Nat)  (t : List Int) (l : List ByteArray) : callN Tryd.prog mode20 T_refEMake fuel 51 [.ls l, vW t] [] = refEManyF_s1 t l (fun a0 a1 a2 a3 => lpN qe4 (qe3 fuel) 4194352 [0, 4, 5, 9, 10, 11] fuel ⟨[(0, .ls l), (4, vN), (5, .sl 0 2 0 a0), (9, vW t), (10, vI a1), (11, vI a2)], [(0, some ⟨82, .lt (.pair (.int .u64) .str) a3, true⟩)], 1, none⟩ (kont (qe3 fuel) (bodyOf Tryd.prog 51) [1, 1, 0, 1, 0] 16 (endK Tryd.prog 0 0 51))) := by kernel_rfl
noncomputable def refEManyF {R : Type} (fuel : Nat) (l : List ByteArray) (t : List Int) (r0 : (List (Int × ByteArray)) → Option R) : Option R :=
  (refEManyF_s1 t l (fun a0 a1 a2 a3 => (refEManyF_l1 fuel l t (fun x0 x1 => (refEManyF_s3 x1 x0 (fun a4 => r0 a4))) fuel a0 a1 a2 a3)))
theorem refEManyF_eq (fuel : Nat) (l : List ByteArray) (t : List Int) : callN Tryd.prog mode20 T_refEMake fuel 51 [.ls l, .li .u64 t] [] = refEManyF fuel l t (fun z0 => some (.lt (.pair (.int .u64) .str) z0, [])) := by
  unfold refEManyF
  exact (refEManyF_s1_eq fuel  t l).trans (congr (Eq.refl (refEManyF_s1 (R := Out) t l)) (funext fun a0 => funext fun a1 => funext fun a2 => funext fun a3 => (refEManyF_l1_eq fuel l t (kont (qe3 fuel) (bodyOf Tryd.prog 51) [1, 1, 0, 1, 0] 16 (endK Tryd.prog 0 0 51)) fuel a0 a1 a2 a3).trans (congrFun (congrFun (congrFun (congrFun (congrFun (congr (Eq.refl (refEManyF_l1 (R := Out) fuel l t)) (funext fun x0 => funext fun x1 => (refEManyF_s3_eq fuel  x1 x0))) fuel) a0) a1) a2) a3)))
theorem refEMany_loop {R : Type} (fuel : Nat) (l : List ByteArray) (h : eszB l = true) (t : List Int) (ht : t.length ≤ 64) (hok : okW t = true) (k0 : Nat → List Sy → Option R) : ∀ (k j : Nat) (acc : List Sy), j ≤ t.length → t.length < j + k → acc.length ≤ j →
    refEManyF_l1 fuel l t k0 k acc.length (t.length : Int) (j : Int) acc = k0 (acc ++ (t.drop j).map (fun d => (emI l d, emS l d))).length (acc ++ (t.drop j).map (fun d => (emI l d, emS l d)))
  | 0, j, acc, h1, h2, _ => by omega
  | k + 1, j, acc, h1, h2, ha => by
    unfold refEManyF_l1 refEManyF_s2
    rw [br_if]
    by_cases hc : j < t.length
    · rw [if_pos (by simpa using hc), bnd_of ((ix_nat t j).trans (List.getElem?_eq_getElem hc)), grd_of (by rw [u64_of hok (List.getElem_mem hc), h]; rfl), grd_of (beq_self _), grd_of (okN_of (by omega) (by omega)), wrap_i64 (by omega) (by omega), show (j : Int) + 1 = ((j + 1 : Nat) : Int) by omega, List.drop_eq_getElem_cons hc, List.map_cons]
      have := refEMany_loop fuel l h t ht hok k0 k (j + 1) (acc ++ [(emI l t[j], emS l t[j])]) (by omega) (by omega) (by simp; omega)
      rw [List.append_assoc] at this
      exact this
    · rw [if_neg (by simpa using hc), List.drop_eq_nil_of_le (by omega)]
      simp
theorem refEMany_fact (l : List ByteArray) (t : List Int) (hg : (okW t && eszB l && decide (t.length ≤ 64)) = true) : Fact Tryd.prog gTab 51 [.ls l, .li .u64 t] [] (.lt (.pair (.int .u64) .str) ((manyL l t) : List (Int × ByteArray)), []) := by
  simp only [Bool.and_eq_true, decide_eq_true_eq] at hg
  obtain ⟨⟨hok, h⟩, ht⟩ := hg
  refine callN_fact hN hM T_refEMake_ok (n := 70) (mode := mode20) ?_
  rw [refEManyF_eq]
  unfold refEManyF refEManyF_s1
  have h1 := fun k0 => refEMany_loop (R := Out) 70 l h t ht hok k0 70 0 [] (by omega) (by omega) (by simp)
  rw [List.drop_zero, List.nil_append, List.length_nil, show ((0 : Nat) : Int) = 0 from rfl] at h1
  dsimp only
  rw [h1]
  unfold refEManyF_s3
  rw [List.drop_zero, List.take_length, manyL_eq]
  rfl
noncomputable def refEMany_ent : List V → List Blk → Option (Bool × Out)
  | [w0, w1], [] => (asSl .str w0).bind fun l => (asSl (.int .u64) w1).bind fun t => some ((okW t && eszB l && decide (t.length ≤ 64)), (.lt (.pair (.int .u64) .str) ((manyL l t) : List (Int × ByteArray)), []))
  | _, _ => none
theorem refEMany_ok : ∀ args bs out, refEMany_ent args bs = some (true, out) → Fact Tryd.prog gTab 51 args bs out := by
  intro args bs out h
  unfold refEMany_ent at h
  split at h
  · rename_i w0 w1
    obtain ⟨l, h_l, h⟩ := Option.bind_eq_some_iff.1 h
    obtain ⟨t, h_t, h⟩ := Option.bind_eq_some_iff.1 h
    simp only [Option.some.injEq, Prod.mk.injEq] at h
    obtain ⟨hg, rfl⟩ := h
    exact (refEMany_fact l t hg).args (fun _ _ _ => fun _ h => RVs_two (fun _ h => RV_ls h_l h) (fun _ h => RVs_two (fun _ h => RV_li h_t h) (fun _ h => h) h) h)
  · cases h
noncomputable def T_refEMany : Tbl := Tbl.cons 51 refEMany_ent T_refEMake
theorem T_refEMany_ok : CallOk Tryd.prog gTab T_refEMany := cons_ok T_refEMake_ok refEMany_ok
/-! downpour/downpourref09.Same -/
noncomputable abbrev qe5 (fuel : Nat) : Ctx Out := (fnX Tryd.prog mode20 T_refEMany fuel 26 0)
noncomputable abbrev qe6 : Code := (sub (bodyOf Tryd.prog 50) [1, 1, 0, 1, 0, 0])
noncomputable def refSymSameF_s2 {R : Type} (w6 w5 : Int) (a b : List (Int × ByteArray)) (c0 : Option R) (c1 : Int → Int → Option R) (c2 : Option R) : Option R :=
  br (decide (w6 < w5))
    (bnd (ix a w6) fun e9 =>
    bnd (ix b w6) fun e0 =>
    br (!(((e9.1 : Int) == e0.1) && ((eqS e9.2 e0.2) && true)))
      (c0)
      (c1 w5 (IntKind.i64.wrap (w6 + 1))))
    (c2)
theorem refSymSameF_s2_eq (fuel k : Nat) (K : Ex → St → Option Out) (w6 w5 : Int) (a b : List (Int × ByteArray)) : lpN qe6 (qe5 fuel) 16 [0, 1, 4, 12, 13] (k + 1) ⟨[(0, .lt (.pair (.int .u64) .str) a), (1, .lt (.pair (.int .u64) .str) b), (4, vB false), (12, vI w5), (13, vI w6)], [], 0, none⟩ K = refSymSameF_s2 w6 w5 a b (K .ret ⟨[(4, vB false)], [], 0, none⟩) (fun a0 a1 => lpN qe6 (qe5 fuel) 16 [0, 1, 4, 12, 13] k ⟨[(0, .lt (.pair (.int .u64) .str) a), (1, .lt (.pair (.int .u64) .str) b), (4, vB false), (12, vI a0), (13, vI a1)], [], 0, none⟩ K) (K (.exit 0) ⟨[(4, vB false)], [], 0, none⟩) := by kernel_rfl
noncomputable def refSymSameF_l1 {R : Type} (fuel : Nat) (a b : List (Int × ByteArray)) (k0 k1 : Option R) : Nat → Int → Int → Option R
  | 0, _, _ => none
  | k + 1, w5, w6 =>
    (refSymSameF_s2 w6 w5 a b (k0) (fun a0 a1 => ( refSymSameF_l1 fuel a b k0 k1 k a0 a1 )) (k1))
theorem refSymSameF_l1_eq (fuel : Nat) (a b : List (Int × ByteArray)) (K : Ex → St → Option Out) : ∀ (k : Nat) (w5 w6 : Int), lpN qe6 (qe5 fuel) 16 [0, 1, 4, 12, 13] k ⟨[(0, .lt (.pair (.int .u64) .str) a), (1, .lt (.pair (.int .u64) .str) b), (4, vB false), (12, vI w5), (13, vI w6)], [], 0, none⟩ K = refSymSameF_l1 fuel a b (K .ret ⟨[(4, vB false)], [], 0, none⟩) (K (.exit 0) ⟨[(4, vB false)], [], 0, none⟩) k w5 w6
  | 0, _, _ => rfl
  | k + 1, w5, w6 => by
    unfold refSymSameF_l1
    exact (refSymSameF_s2_eq fuel k K w6 w5 a b).trans (congr (congr (congr (Eq.refl (refSymSameF_s2 (R := Out) w6 w5 a b)) (rfl)) (funext fun a0 => funext fun a1 => refSymSameF_l1_eq fuel a b K k a0 a1)) (rfl))
noncomputable def refSymSameF_s3 {R : Type}  (c0 : Bool → Option R) : Option R :=
  c0 false
theorem refSymSameF_s3_eq (fuel : Nat)   : (kont (qe5 fuel) (bodyOf Tryd.prog 50) [1, 1, 0, 1, 0] 16 (endK Tryd.prog 0 0 50)) .ret ⟨[(4, vB false)], [], 0, none⟩ = refSymSameF_s3  (fun a0 => some (vB a0, [])) := by kernel_rfl
noncomputable def refSymSameF_s4 {R : Type}  (c0 : Bool → Option R) : Option R :=
  c0 true
theorem refSymSameF_s4_eq (fuel : Nat)   : (kont (qe5 fuel) (bodyOf Tryd.prog 50) [1, 1, 0, 1, 0] 16 (endK Tryd.prog 0 0 50)) (.exit 0) ⟨[(4, vB false)], [], 0, none⟩ = refSymSameF_s4  (fun a0 => some (vB a0, [])) := by kernel_rfl
noncomputable def refSymSameF_s1 {R : Type} (a b : List (Int × ByteArray)) (c0 : Bool → Option R) (c1 : Int → Int → Option R) : Option R :=
  br ((((a.length : Nat) : Int) : Int) != ((b.length : Nat) : Int))
    (c0 false)
    (c1 ((a.length : Nat) : Int) 0)
theorem refSymSameF_s1_eq (fuel : Nat)  (a b : List (Int × ByteArray)) : callN Tryd.prog mode20 T_refEMany fuel 50 [.lt (.pair (.int .u64) .str) a, .lt (.pair (.int .u64) .str) b] [] = refSymSameF_s1 a b (fun a1 => some (vB a1, [])) (fun a0 a2 => lpN qe6 (qe5 fuel) 16 [0, 1, 4, 12, 13] fuel ⟨[(0, .lt (.pair (.int .u64) .str) a), (1, .lt (.pair (.int .u64) .str) b), (4, vB false), (12, vI a0), (13, vI a2)], [], 0, none⟩ (kont (qe5 fuel) (bodyOf Tryd.prog 50) [1, 1, 0, 1, 0] 16 (endK Tryd.prog 0 0 50))) := by kernel_rfl
noncomputable def refSymSameF {R : Type} (fuel : Nat) (a b : List (Int × ByteArray)) (r0 : Bool → Option R) : Option R :=
  (refSymSameF_s1 a b (fun a1 => r0 a1) (fun a0 a2 => (refSymSameF_l1 fuel a b ((refSymSameF_s3 (fun a3 => r0 a3))) ((refSymSameF_s4 (fun a4 => r0 a4))) fuel a0 a2)))
theorem refSymSameF_eq (fuel : Nat) (a b : List (Int × ByteArray)) : callN Tryd.prog mode20 T_refEMany fuel 50 [.lt (.pair (.int .u64) .str) a, .lt (.pair (.int .u64) .str) b] [] = refSymSameF fuel a b (fun z0 => some (.s (.bool z0), [])) := by
  unfold refSymSameF
  exact (refSymSameF_s1_eq fuel  a b).trans (congr (congr (Eq.refl (refSymSameF_s1 (R := Out) a b)) (rfl)) (funext fun a0 => funext fun a1 => (refSymSameF_l1_eq fuel a b (kont (qe5 fuel) (bodyOf Tryd.prog 50) [1, 1, 0, 1, 0] 16 (endK Tryd.prog 0 0 50)) fuel a0 a1).trans (congrFun (congrFun (congrFun (congr (congr (Eq.refl (refSymSameF_l1 (R := Out) fuel a b)) ((refSymSameF_s3_eq fuel  ))) ((refSymSameF_s4_eq fuel  ))) fuel) a0) a1)))
theorem refSymSame_loop {R : Type} (fuel : Nat) (a b : List Sy) (hl : a.length = b.length) (hx : a.length ≤ 1000000) (k0 k1 : Option R) : ∀ (k j : Nat), j ≤ a.length → a.length < j + k → refSymSameF_l1 fuel a b k0 k1 k (a.length : Int) (j : Int) = if a.drop j = b.drop j then k1 else k0
  | 0, j, h1, h2 => by omega
  | k + 1, j, h1, h2 => by
    unfold refSymSameF_l1 refSymSameF_s2
    rw [br_if]
    by_cases hc : j < a.length
    · have hcb : j < b.length := by omega
      rw [if_pos (by simpa using hc), bnd_of ((ix_nat a j).trans (List.getElem?_eq_getElem hc)), bnd_of ((ix_nat b j).trans (List.getElem?_eq_getElem hcb)), br_if, wrap_i64 (by omega) (by omega), show (j : Int) + 1 = ((j + 1 : Nat) : Int) by omega, List.drop_eq_getElem_cons hc, List.drop_eq_getElem_cons hcb]
      dsimp only
      rw [refSymSame_loop fuel a b hl hx k0 k1 k (j + 1) (by omega) (by omega), eqS_decide]
      by_cases h : a[j] = b[j]
      · rw [h, if_neg (by simp)]
        simp only [List.cons.injEq, true_and]
      · have : ¬ ((a[j]).1 = (b[j]).1 ∧ (a[j]).2 = (b[j]).2) := fun g => h (Prod.ext g.1 g.2)
        rw [if_pos (by simp; exact Classical.or_iff_not_imp_left.2 fun g g2 => this ⟨Classical.not_not.1 g, g2⟩), if_neg (fun g => h (List.cons.inj g).1)]
    · rw [if_neg (by simpa using hc), List.drop_eq_nil_of_le (by omega), List.drop_eq_nil_of_le (by omega), if_pos rfl]
theorem refSymSame_fact (a : List (Int × ByteArray)) (b : List (Int × ByteArray)) (hg : (decide (List.length (α := Sy) a ≤ 1000000)) = true) : Fact Tryd.prog gTab 50 [.lt (.pair (.int .u64) .str) a, .lt (.pair (.int .u64) .str) b] [] (.s (.bool (eqSy a b)), []) := by
  have hx : List.length (α := Sy) a ≤ 1000000 := of_decide_eq_true hg
  refine callN_fact hN hM T_refEMany_ok (n := a.length + 1) (mode := mode20) ?_
  rw [refSymSameF_eq]
  unfold refSymSameF refSymSameF_s1
  rw [br_if, eqSy_eq]
  unfold eqSyI
  by_cases hl : a.length = b.length
  · have h1 := fun k0 k1 => refSymSame_loop (R := Out) (a.length + 1) a b hl hx k0 k1 (a.length + 1) 0 (by omega) (by omega)
    rw [show ((0 : Nat) : Int) = 0 from rfl, List.drop_zero, List.drop_zero] at h1
    rw [if_neg (by simp [hl])]
    dsimp only
    rw [h1]
    unfold refSymSameF_s3 refSymSameF_s4
    by_cases h : a = b
    · rw [if_pos h, decide_eq_true h]
    · rw [if_neg h, decide_eq_false h]
  · rw [if_pos (by simp; omega), decide_eq_false (fun h => hl (by rw [h]))]
noncomputable def refSymSame_ent : List V → List Blk → Option (Bool × Out)
  | [w0, w1], [] => (asSl (.pair (.int .u64) .str) w0).bind fun a => (asSl (.pair (.int .u64) .str) w1).bind fun b => some ((decide (List.length (α := Sy) a ≤ 1000000)), (.s (.bool (eqSy a b)), []))
  | _, _ => none
theorem refSymSame_ok : ∀ args bs out, refSymSame_ent args bs = some (true, out) → Fact Tryd.prog gTab 50 args bs out := by
  intro args bs out h
  unfold refSymSame_ent at h
  split at h
  · rename_i w0 w1
    obtain ⟨a, h_a, h⟩ := Option.bind_eq_some_iff.1 h
    obtain ⟨b, h_b, h⟩ := Option.bind_eq_some_iff.1 h
    simp only [Option.some.injEq, Prod.mk.injEq] at h
    obtain ⟨hg, rfl⟩ := h
    exact (refSymSame_fact a b hg).args (fun _ _ _ => fun _ h => RVs_two (fun _ h => RV_sl (s := (.pair (.int .u64) .str)) h_a h) (fun _ h => RVs_two (fun _ h => RV_sl (s := (.pair (.int .u64) .str)) h_b h) (fun _ h => h) h) h)
  · cases h
noncomputable def T_refSymSame : Tbl := Tbl.cons 50 refSymSame_ent T_refEMany
theorem T_refSymSame_ok : CallOk Tryd.prog gTab T_refSymSame := cons_ok T_refEMany_ok refSymSame_ok
def mode21 : FuncId → Nat := fun f => 0
/-! downpour/downpourlaw09.blocks -/
noncomputable abbrev qe7 (fuel : Nat) : Ctx Out := (fnX Tryd.prog mode21 T_refSymSame fuel 26 0)
noncomputable abbrev qe8 : Code := (sub (bodyOf Tryd.prog 44) [1, 1, 0, 1, 0, 0])
noncomputable def eblocksF_s3 {R : Type} (w0 w3 : Int) (w2 w1 : List ByteArray) (w4 : Nat) (c0 : Nat → Int → List ByteArray → Option R) (c1 : Nat → List ByteArray → Option R) : Option R :=
  br (decide (w0 < w3))
    (bnd (ix w2 w0) fun e0 =>
    bnd (upTo (min ((e0.size : Nat) : Int) 66) e0.size) fun j0 =>
    grd (Nat.beq w1.length w4) <|
    grd (okN (w4 + 1) 16) <|
    c0 ((w1 ++ [(e0.extract 0 j0)]).length) (IntKind.i64.wrap (w0 + 1)) (w1 ++ [(e0.extract 0 j0)]))
    (c1 w4 w1)
theorem eblocksF_s3_eq (fuel k : Nat) (K : Ex → St → Option Out) (w0 w3 : Int) (w2 w1 : List ByteArray) (w4 : Nat) : lpN qe8 (qe7 fuel) 33554444 [2, 3, 10, 11, 12] (k + 1) ⟨[(2, vN), (3, .sl 0 1 0 w4), (10, .ls w2), (11, vI w3), (12, vI w0)], [(0, some ⟨9, .ls w1, true⟩)], 1, none⟩ K = eblocksF_s3 w0 w3 w2 w1 w4 (fun a0 a1 a2 => lpN qe8 (qe7 fuel) 33554444 [2, 3, 10, 11, 12] k ⟨[(2, vN), (3, .sl 0 1 0 a0), (10, .ls w2), (11, vI w3), (12, vI a1)], [(0, some ⟨9, .ls a2, true⟩)], 1, none⟩ K) (fun a3 a4 => K (.exit 0) ⟨[(2, vN), (3, .sl 0 1 0 a3)], [(0, some ⟨9, .ls a4, true⟩)], 1, none⟩) := by kernel_rfl
noncomputable def eblocksF_l2 {R : Type} (fuel : Nat) (w2 : List ByteArray) (w3 : Int) (k0 : Nat → List ByteArray → Option R) : Nat → Nat → Int → List ByteArray → Option R
  | 0, _, _, _ => none
  | k + 1, w0, w1, w4 =>
    (eblocksF_s3 w1 w3 w2 w4 w0 (fun a0 a1 a2 => ( eblocksF_l2 fuel w2 w3 k0 k a0 a1 a2 )) (fun a3 a4 => k0 a3 a4))
theorem eblocksF_l2_eq (fuel : Nat) (w2 : List ByteArray) (w3 : Int) (K : Ex → St → Option Out) : ∀ (k w0 : Nat) (w1 : Int) (w4 : List ByteArray), lpN qe8 (qe7 fuel) 33554444 [2, 3, 10, 11, 12] k ⟨[(2, vN), (3, .sl 0 1 0 w0), (10, .ls w2), (11, vI w3), (12, vI w1)], [(0, some ⟨9, .ls w4, true⟩)], 1, none⟩ K = eblocksF_l2 fuel w2 w3 (fun y0 y1 => K (.exit 0) ⟨[(2, vN), (3, .sl 0 1 0 y0)], [(0, some ⟨9, .ls y1, true⟩)], 1, none⟩) k w0 w1 w4
  | 0, _, _, _ => rfl
  | k + 1, w0, w1, w4 => by
    unfold eblocksF_l2
    exact (eblocksF_s3_eq fuel k K w1 w3 w2 w4 w0).trans (congr (congr (Eq.refl (eblocksF_s3 (R := Out) w1 w3 w2 w4 w0)) (funext fun a0 => funext fun a1 => funext fun a2 => eblocksF_l2_eq fuel w2 w3 K k a0 a1 a2)) (rfl))
noncomputable def eblocksF_s2 {R : Type} (w3 : Int) (w2 : List ByteArray) (c0 : Nat → Int → List ByteArray → Option R) (c1 : Option R) : Option R :=
  br (decide (0 < w3))
    (bnd (ix w2 0) fun e0 =>
    bnd (upTo (min ((e0.size : Nat) : Int) 66) e0.size) fun j0 =>
    c0 1 1 ([(e0.extract 0 j0)]))
    (c1)
theorem eblocksF_s2_eq (fuel k : Nat) (K : Ex → St → Option Out) (w3 : Int) (w2 : List ByteArray) : lpN qe8 (qe7 fuel) 33554444 [2, 3, 10, 11, 12] (k + 1) ⟨[(2, vN), (3, vN), (10, .ls w2), (11, vI w3), (12, vI 0)], [], 0, none⟩ K = eblocksF_s2 w3 w2 (fun a0 a1 a2 => lpN qe8 (qe7 fuel) 33554444 [2, 3, 10, 11, 12] k ⟨[(2, vN), (3, .sl 0 1 0 a0), (10, .ls w2), (11, vI w3), (12, vI a1)], [(0, some ⟨9, .ls a2, true⟩)], 1, none⟩ K) (K (.exit 0) ⟨[(2, vN), (3, vN)], [], 0, none⟩) := by kernel_rfl
noncomputable def eblocksF_l1 {R : Type} (fuel : Nat)  (k0 : Nat → List ByteArray → Option R) (k1 : Option R) : Nat → List ByteArray → Int → Option R
  | 0, _, _ => none
  | k + 1, w2, w3 =>
    (eblocksF_s2 w3 w2 (fun a0 a1 a2 => (eblocksF_l2 fuel w2 w3 (fun x0 x1 => k0 x0 x1) k a0 a1 a2)) (k1))
theorem eblocksF_l1_eq (fuel : Nat)  (K : Ex → St → Option Out) : ∀ (k : Nat) (w2 : List ByteArray) (w3 : Int), lpN qe8 (qe7 fuel) 33554444 [2, 3, 10, 11, 12] k ⟨[(2, vN), (3, vN), (10, .ls w2), (11, vI w3), (12, vI 0)], [], 0, none⟩ K = eblocksF_l1 fuel  (fun y0 y1 => K (.exit 0) ⟨[(2, vN), (3, .sl 0 1 0 y0)], [(0, some ⟨9, .ls y1, true⟩)], 1, none⟩) (K (.exit 0) ⟨[(2, vN), (3, vN)], [], 0, none⟩) k w2 w3
  | 0, _, _ => rfl
  | k + 1, w2, w3 => by
    unfold eblocksF_l1
    exact (eblocksF_s2_eq fuel k K w3 w2).trans (congr (congr (Eq.refl (eblocksF_s2 (R := Out) w3 w2)) (funext fun a0 => funext fun a1 => funext fun a2 => eblocksF_l2_eq fuel w2 w3 K k a0 a1 a2)) (rfl))
noncomputable def eblocksF_s4 {R : Type} (x0 : List ByteArray) (x1 : Nat) (c0 : List ByteArray → Option R) : Option R :=
  c0 ((x0.drop 0).take x1)
theorem eblocksF_s4_eq (fuel : Nat)  (x0 : List ByteArray) (x1 : Nat) : (kont (qe7 fuel) (bodyOf Tryd.prog 44) [1, 1, 0, 1, 0] 4 (endK Tryd.prog 0 0 44)) (.exit 0) ⟨[(2, vN), (3, .sl 0 1 0 x1)], [(0, some ⟨9, .ls x0, true⟩)], 1, none⟩ = eblocksF_s4 x0 x1 (fun a0 => some (.ls a0, [])) := by kernel_rfl
noncomputable def eblocksF_s5 {R : Type}  (c0 : Option R) : Option R :=
  c0
theorem eblocksF_s5_eq (fuel : Nat)   : (kont (qe7 fuel) (bodyOf Tryd.prog 44) [1, 1, 0, 1, 0] 4 (endK Tryd.prog 0 0 44)) (.exit 0) ⟨[(2, vN), (3, vN)], [], 0, none⟩ = eblocksF_s5  (some (vN, [])) := by kernel_rfl
noncomputable def eblocksF_s1 {R : Type} (l : List ByteArray) (c0 : List ByteArray → Int → Option R) : Option R :=
  bnd (upTo (min ((l.length : Nat) : Int) 66) l.length) fun j1 =>
  c0 ((l.drop 0).take (j1 - 0)) ((((l.drop 0).take (j1 - 0)).length : Nat) : Int)
theorem eblocksF_s1_eq (fuel : Nat)  (l : List ByteArray) : callN Tryd.prog mode21 T_refSymSame fuel 44 [.ls l] [] = eblocksF_s1 l (fun a0 a1 => lpN qe8 (qe7 fuel) 33554444 [2, 3, 10, 11, 12] fuel ⟨[(2, vN), (3, vN), (10, .ls a0), (11, vI a1), (12, vI 0)], [], 0, none⟩ (kont (qe7 fuel) (bodyOf Tryd.prog 44) [1, 1, 0, 1, 0] 4 (endK Tryd.prog 0 0 44))) := by kernel_rfl
noncomputable def eblocksF {R : Type} (fuel : Nat) (l : List ByteArray) (r0 : List ByteArray → Option R) (r1 : Option R) : Option R :=
  (eblocksF_s1 l (fun a0 a1 => (eblocksF_l1 fuel (fun x0 x1 => (eblocksF_s4 x1 x0 (fun a2 => r0 a2))) ((eblocksF_s5 (r1))) fuel a0 a1)))
theorem eblocksF_eq (fuel : Nat) (l : List ByteArray) : callN Tryd.prog mode21 T_refSymSame fuel 44 [.ls l] [] = eblocksF fuel l (fun z0 => some (.ls z0, [])) (some (.s (.slice none 0 0), [])) := by
  unfold eblocksF
  exact (eblocksF_s1_eq fuel  l).trans (congr (Eq.refl (eblocksF_s1 (R := Out) l)) (funext fun a0 => funext fun a1 => (eblocksF_l1_eq fuel  (kont (qe7 fuel) (bodyOf Tryd.prog 44) [1, 1, 0, 1, 0] 4 (endK Tryd.prog 0 0 44)) fuel a0 a1).trans (congrFun (congrFun (congrFun (congr (congr (Eq.refl (eblocksF_l1 (R := Out) fuel )) (funext fun x0 => funext fun x1 => (eblocksF_s4_eq fuel  x1 x0))) ((eblocksF_s5_eq fuel  ))) fuel) a0) a1)))
theorem eblocks_bB {R : Type} (fuel : Nat) (z : Int) (w : List ByteArray) (hw : w.length ≤ 66) (k0 : Nat → List ByteArray → Option R) : ∀ (k j : Nat) (acc : List ByteArray), j ≤ w.length → w.length < j + k → acc.length ≤ j →
    eblocksF_l2 fuel w (w.length : Int)  k0 k acc.length (j : Int) acc = k0 (acc ++ (w.drop j).map (fun s : ByteArray => s.extract 0 (min s.size 66))).length (acc ++ (w.drop j).map (fun s : ByteArray => s.extract 0 (min s.size 66)))
  | 0, j, acc, h1, h2, _ => by omega
  | k + 1, j, acc, h1, h2, ha => by
    unfold eblocksF_l2 eblocksF_s3
    rw [br_if]
    by_cases hc : j < w.length
    · rw [if_pos (by simpa using hc), bnd_of ((ix_nat w j).trans (List.getElem?_eq_getElem hc)), bnd_of (up_to _ 66 (c := 66) rfl), grd_of (beq_self _), grd_of (okN_of (by omega) (by omega)), wrap_i64 (by omega) (by omega), show (j : Int) + 1 = ((j + 1 : Nat) : Int) by omega, List.drop_eq_getElem_cons hc, List.map_cons]
      have := eblocks_bB fuel z w hw k0 k (j + 1) (acc ++ [(w[j]).extract 0 (min (w[j]).size 66)]) (by omega) (by omega) (by simp; omega)
      rw [List.append_assoc] at this
      exact this
    · rw [if_neg (by simpa using hc), List.drop_eq_nil_of_le (by omega)]
      simp
theorem eblocks_bB1 {R : Type} (fuel : Nat) (z : Int) (w : List ByteArray) (hw : w.length ≤ 66) (k0 : Nat → List ByteArray → Option R) (k1 : Option R) (k : Nat) (hk : w.length + 1 < k) :
    eblocksF_l1 fuel  k0 k1 k w (w.length : Int) = if w.length = 0 then k1 else k0 (w.map (fun s : ByteArray => s.extract 0 (min s.size 66))).length (w.map (fun s : ByteArray => s.extract 0 (min s.size 66))) := by
  cases k with
  | zero => omega
  | succ k =>
    unfold eblocksF_l1 eblocksF_s2
    dsimp only
    rw [br_if]
    by_cases hy : 0 < w.length
    · have e0 : ix w 0 = some w[0] := (ix_nat w 0).trans (List.getElem?_eq_getElem hy)
      rw [if_pos (by simpa using hy), if_neg (by omega), bnd_of e0, bnd_of (up_to _ 66 (c := 66) rfl)]
      have ho := eblocks_bB (R := R) fuel z w hw k0 k 1 [(w[0]).extract 0 (min (w[0]).size 66)] (by omega) (by omega) (by simp)
      have hy1 : [(w[0]).extract 0 (min (w[0]).size 66)] ++ (w.drop 1).map (fun s : ByteArray => s.extract 0 (min s.size 66)) = w.map (fun s : ByteArray => s.extract 0 (min s.size 66)) := by
        cases w with
        | nil => simp at hy
        | cons a t => rfl
      rw [hy1] at ho
      exact ho
    · rw [if_neg (by simpa using hy), if_pos (by omega)]

theorem eblocks_fact (l : List ByteArray) : Fact Tryd.prog gTab 44 [.ls l] [] (.ls (eblS l), []) := by
  have hy : (l.take 66).length ≤ 66 := by rw [List.length_take]; omega
  have e2 : (l.take 66).map (fun s => s.extract 0 (min s.size 66)) = eblS l := by rw [eblS_eq]; rfl
  have hwalk : callN Tryd.prog mode21 T_refSymSame 70 44 [.ls l] [] = if (l.take 66).length = 0 then some (.s (.slice none 0 0), []) else some (.ls (eblS l), []) := by
    rw [eblocksF_eq]
    unfold eblocksF eblocksF_s1
    rw [bnd_of (up_to _ 66 (c := 66) rfl), take_toE]
    dsimp only
    rw [eblocks_bB1 (R := Out) 70 0 (l.take 66) hy _ _ 70 (by omega), e2]
    by_cases g : (l.take 66).length = 0
    · rw [if_pos g, if_pos g]; rfl
    · rw [if_neg g, if_neg g]
      unfold eblocksF_s4
      rw [List.drop_zero, List.take_length]
  by_cases g : (l.take 66).length = 0
  · rw [if_pos g] at hwalk
    have : eblS l = [] := by rw [eblS_eq]; unfold eblI; rw [List.eq_nil_of_length_eq_zero g]; rfl
    rw [this]
    exact (callN_fact hN hM T_refSymSame_ok hwalk).out fun _ _ _ x h => RV_nil_ls h
  · rw [if_neg g] at hwalk
    exact callN_fact hN hM T_refSymSame_ok hwalk
noncomputable def eblocks_ent : List V → List Blk → Option (Bool × Out)
  | [w0], [] => (asSl .str w0).bind fun l => some (true, (.ls (eblS l), []))
  | _, _ => none
theorem eblocks_ok : ∀ args bs out, eblocks_ent args bs = some (true, out) → Fact Tryd.prog gTab 44 args bs out := by
  intro args bs out h
  unfold eblocks_ent at h
  split at h
  · rename_i w0
    obtain ⟨l, h_l, h⟩ := Option.bind_eq_some_iff.1 h
    simp only [Option.some.injEq, Prod.mk.injEq] at h
    obtain ⟨_, rfl⟩ := h
    exact (eblocks_fact l).args (fun _ _ _ => fun _ h => RVs_two (fun _ h => RV_ls h_l h) (fun _ h => h) h)
  · cases h
noncomputable def T_eblocks : Tbl := Tbl.cons 44 eblocks_ent T_refSymSame
theorem T_eblocks_ok : CallOk Tryd.prog gTab T_eblocks := cons_ok T_refSymSame_ok eblocks_ok
/-! downpour/downpourlaw09.alive -/
noncomputable def ealiveF_s1 {R : Type}  (c0 : Bool → Option R) : Option R :=
  grd (decide (0 ≤ 7) && decide (7 < 18446744073709551616)) <|
  br (((if eszB ([(⟨#[97, 98]⟩ : ByteArray)]) = true then 0 else 1) : Int) == 0)
    (br (((emI ([(⟨#[97, 98]⟩ : ByteArray)]) 7) : Int) == 7)
      (c0 (eqS (emS ([(⟨#[97, 98]⟩ : ByteArray)]) 7) (⟨#[97, 98]⟩ : ByteArray)))
      (c0 false))
    (c0 false)
theorem ealiveF_s1_eq (fuel : Nat)   : callN Tryd.prog mode21 T_eblocks fuel 48 [] [] = ealiveF_s1  (fun a1 => some (vB a1, [])) := by kernel_rfl
noncomputable def ealiveF {R : Type} (fuel : Nat)  (r0 : Bool → Option R) : Option R :=
  (ealiveF_s1 (fun a1 => r0 a1))
theorem ealiveF_eq (fuel : Nat)  : callN Tryd.prog mode21 T_eblocks fuel 48 [] [] = ealiveF fuel  (fun z0 => some (.s (.bool z0), [])) := by
  unfold ealiveF
  exact (ealiveF_s1_eq fuel  )
theorem ea_sz : eszB [(⟨#[97, 98]⟩ : ByteArray)] = true := by
  rw [eszB_eq]; unfold eszBI; rw [bok_eq]; decide +kernel
theorem ea_nb : nbS 1 7 = [0] := by
  have h1 : ∀ x, x ∈ nbS 1 7 → 0 ≤ x ∧ x < 1 := fun x hx => nb_range (by decide) (by decide) hx
  have h2 := nb_rise (z := 1) (d := 7) (by decide) (by decide)
  have h3 := nb_pos (z := 1) (d := 7) (by decide) (by decide)
  cases hn : nbS 1 7 with
  | nil => rw [hn] at h3; simp at h3
  | cons a t =>
    rw [hn] at h1 h2
    have ha := h1 a List.mem_cons_self
    cases t with
    | nil => rw [show a = 0 by omega]
    | cons b u =>
      have hb := h1 b (List.mem_cons_of_mem _ List.mem_cons_self)
      have := (List.pairwise_cons.1 h2).1 b List.mem_cons_self
      omega
theorem ea_s : emS [(⟨#[97, 98]⟩ : ByteArray)] 7 = (⟨#[97, 98]⟩ : ByteArray) := by
  have hr0 : ∀ x ∈ ([0] : List Int), 0 ≤ x ∧ x < (1 : Int) := fun x hx => by rw [List.mem_singleton] at hx; omega
  have hp := pl_of hr0 (by decide) (by decide) (List.pairwise_singleton _ _)
  rw [plcS_eq] at hp
  unfold plcI at hp
  rw [if_pos (rt_of hr0 (by decide) (by decide))] at hp
  rw [emS_eq]; unfold emSI
  rw [if_pos ea_sz, show (([(⟨#[97, 98]⟩ : ByteArray)].length : Nat) : Int) = 1 from rfl, ea_nb, pickL_eq, sumS_eq, eszN_eq]
  unfold pickLI sumI eszNI
  rw [hp]
  unfold sumL
  rw [xb_eq]
  decide +kernel
theorem ealive_fact  : Fact Tryd.prog gTab 48 [] [] (.s (.bool true), []) := by
  refine callN_fact hN hM T_eblocks_ok (n := 0) (mode := mode21) ?_
  rw [ealiveF_eq]
  unfold ealiveF ealiveF_s1
  have hI : emI [(⟨#[97, 98]⟩ : ByteArray)] 7 = 7 := by rw [emI_eq]; unfold emII; rw [if_pos ea_sz]
  rw [grd_of (by rfl), if_pos ea_sz, hI, ea_s, eqS_iff.2 rfl]
  rfl
noncomputable def ealive_ent : List V → List Blk → Option (Bool × Out)
  | [], [] => some (true, (.s (.bool true), []))
  | _, _ => none
theorem ealive_ok : ∀ args bs out, ealive_ent args bs = some (true, out) → Fact Tryd.prog gTab 48 args bs out := by
  intro args bs out h
  unfold ealive_ent at h
  split at h
  · simp only [Option.some.injEq, Prod.mk.injEq] at h
    obtain ⟨_, rfl⟩ := h
    exact ealive_fact 
  · cases h
noncomputable def T_ealive : Tbl := Tbl.cons 48 ealive_ent T_eblocks
theorem T_ealive_ok : CallOk Tryd.prog gTab T_ealive := cons_ok T_eblocks_ok ealive_ok
/-! downpour/downpourlaw09.EncodeMakes -/
noncomputable def lawEMakesF_s1 {R : Type} (t : List Int) (d : Int) (l : List ByteArray) (c0 : Bool → Option R) : Option R :=
  br (decide ((((t.length : Nat) : Int) : Int) ≤ 64))
    (bnd (upTo (min ((t.length : Nat) : Int) 8) t.length) fun j1 =>
    grd (decide (0 ≤ d) && decide (d < 18446744073709551616)) <|
    grd (okW ((t.drop 0).take (j1 - 0))) <|
    br (!(eszB (eblS l)))
      (br (((if eszB (eblS l) = true then 0 else 1) : Int) == 1)
        (br (((manyE (eblS l) ((t.drop 0).take (j1 - 0))) : Int) == 1)
          (br (((emI (eblS l) d) : Int) == 0)
            (br (eqS (emS (eblS l) d) ByteArray.empty)
              (c0 (((((manyS (eblS l) ((t.drop 0).take (j1 - 0))).length : Nat) : Int) : Int) == 0))
              (c0 false))
            (c0 false))
          (c0 false))
        (c0 false))
      (br (((if eszB (eblS l) = true then 0 else 1) : Int) != 0)
        (c0 false)
        (grd ((decide (0 ≤ d) && decide (d < 18446744073709551616)) && eszB (eblS l)) <|
        br (!((((emI (eblS l) d) : Int) == (emI (eblS l) d)) && ((eqS (emS (eblS l) d) (emS (eblS l) d)) && true)))
          (c0 false)
          (br (decide ((((((t.drop 0).take (j1 - 0)).length : Nat) : Int) : Int) > 64))
            (br (((manyE (eblS l) ((t.drop 0).take (j1 - 0))) : Int) == 2)
              (c0 (((((manyS (eblS l) ((t.drop 0).take (j1 - 0))).length : Nat) : Int) : Int) == 0))
              (c0 false))
            (br (((manyE (eblS l) ((t.drop 0).take (j1 - 0))) : Int) == 0)
              (grd (okW ((t.drop 0).take (j1 - 0)) && eszB (eblS l) && decide (((t.drop 0).take (j1 - 0)).length ≤ 64)) <|
              grd (decide (List.length (α := Sy) (manyS (eblS l) ((t.drop 0).take (j1 - 0))) ≤ 1000000)) <|
              c0 (eqSy (manyS (eblS l) ((t.drop 0).take (j1 - 0))) (manyL (eblS l) ((t.drop 0).take (j1 - 0)))))
              (c0 false))))))
    (grd (decide (0 ≤ d) && decide (d < 18446744073709551616)) <|
    grd (okW t) <|
    br (!(eszB (eblS l)))
      (br (((if eszB (eblS l) = true then 0 else 1) : Int) == 1)
        (br (((manyE (eblS l) t) : Int) == 1)
          (br (((emI (eblS l) d) : Int) == 0)
            (br (eqS (emS (eblS l) d) ByteArray.empty)
              (c0 (((((manyS (eblS l) t).length : Nat) : Int) : Int) == 0))
              (c0 false))
            (c0 false))
          (c0 false))
        (c0 false))
      (br (((if eszB (eblS l) = true then 0 else 1) : Int) != 0)
        (c0 false)
        (grd ((decide (0 ≤ d) && decide (d < 18446744073709551616)) && eszB (eblS l)) <|
        br (!((((emI (eblS l) d) : Int) == (emI (eblS l) d)) && ((eqS (emS (eblS l) d) (emS (eblS l) d)) && true)))
          (c0 false)
          (br (decide ((((t.length : Nat) : Int) : Int) > 64))
            (br (((manyE (eblS l) t) : Int) == 2)
              (c0 (((((manyS (eblS l) t).length : Nat) : Int) : Int) == 0))
              (c0 false))
            (br (((manyE (eblS l) t) : Int) == 0)
              (grd (okW t && eszB (eblS l) && decide (t.length ≤ 64)) <|
              grd (decide (List.length (α := Sy) (manyS (eblS l) t) ≤ 1000000)) <|
              c0 (eqSy (manyS (eblS l) t) (manyL (eblS l) t)))
              (c0 false))))))
theorem lawEMakesF_s1_eq (fuel : Nat)  (t : List Int) (d : Int) (l : List ByteArray) : callN Tryd.prog mode21 T_ealive fuel 10 [.ls l, vU d, vW t] [] = lawEMakesF_s1 t d l (fun a2 => some (vB a2, [])) := by kernel_rfl
noncomputable def lawEMakesF {R : Type} (fuel : Nat) (l : List ByteArray) (d : Int) (t : List Int) (r0 : Bool → Option R) : Option R :=
  (lawEMakesF_s1 t d l (fun a2 => r0 a2))
theorem lawEMakesF_eq (fuel : Nat) (l : List ByteArray) (d : Int) (t : List Int) : callN Tryd.prog mode21 T_ealive fuel 10 [.ls l, .s (.int .u64 d), .li .u64 t] [] = lawEMakesF fuel l d t (fun z0 => some (.s (.bool z0), [])) := by
  unfold lawEMakesF
  exact (lawEMakesF_s1_eq fuel  t d l)
theorem lawEMakes_fact (l : List ByteArray) (d : Int) (t : List Int) (hg : ((decide (0 ≤ d) && decide (d < 18446744073709551616)) && okW t) = true) : Fact Tryd.prog gTab 10 [.ls l, .s (.int .u64 d), .li .u64 t] [] (.s (.bool true), []) := by
  rw [Bool.and_eq_true] at hg
  obtain ⟨hd, hok⟩ := hg
  refine callN_fact hN hM T_ealive_ok (n := 0) (mode := mode21) ?_
  rw [lawEMakesF_eq]
  unfold lawEMakesF lawEMakesF_s1
  have e3 : ∀ a, eqSy a a = true := fun a => by rw [eqSy_eq]; unfold eqSyI; exact decide_eq_true rfl
  have key : ∀ s : List Int, okW s = true → (s.length ≤ 64 → s.length ≤ 64) → (br (!(eszB (eblS l)))
      (br (((if eszB (eblS l) = true then 0 else 1) : Int) == 1)
        (br (((manyE (eblS l) s) : Int) == 1)
          (br (((emI (eblS l) d) : Int) == 0)
            (br (eqS (emS (eblS l) d) ByteArray.empty)
              (some (V.s (.bool (((((manyS (eblS l) s).length : Nat) : Int) : Int) == 0)), []))
              (some (V.s (.bool false), [])))
            (some (V.s (.bool false), [])))
          (some (V.s (.bool false), [])))
        (some (V.s (.bool false), [])))
      (br (((if eszB (eblS l) = true then 0 else 1) : Int) != 0)
        (some (V.s (.bool false), []))
        (grd ((decide (0 ≤ d) && decide (d < 18446744073709551616)) && eszB (eblS l)) <|
        br (!((((emI (eblS l) d) : Int) == (emI (eblS l) d)) && ((eqS (emS (eblS l) d) (emS (eblS l) d)) && true)))
          (some (V.s (.bool false), []))
          (br (decide ((((s.length : Nat) : Int) : Int) > 64))
            (br (((manyE (eblS l) s) : Int) == 2)
              (some (V.s (.bool (((((manyS (eblS l) s).length : Nat) : Int) : Int) == 0)), []))
              (some (V.s (.bool false), [])))
            (br (((manyE (eblS l) s) : Int) == 0)
              (grd (okW s && eszB (eblS l) && decide (s.length ≤ 64)) <|
              grd (decide (List.length (α := Sy) (manyS (eblS l) s) ≤ 1000000)) <|
              some (V.s (.bool (eqSy (manyS (eblS l) s) (manyL (eblS l) s))), []))
              (some (V.s (.bool false), []))))))) = some ((V.s (.bool true), []) : Out) := fun s hs _ => by
    generalize eblS l = u
    rw [br_if]
    by_cases h : eszB u = true
    · rw [if_neg (by simp [h]), if_pos h, br_if, if_neg (by decide), grd_of (by rw [hd, h]; rfl), eqS_iff.2 rfl, br_if, if_neg (by simp), br_if]
      by_cases ht : s.length ≤ 64
      · obtain ⟨e1, e2⟩ := many_ok h ht
        have hl : List.length (α := Sy) (manyL u s) ≤ 64 := by rw [manyL_eq]; unfold manyLI; rw [List.length_map]; exact ht
        rw [if_neg (by simp; omega), e1, e2, br_if, if_pos (by decide), grd_of (by rw [hs, h]; simp; omega), grd_of (decide_eq_true (by omega)), e3]
      · have e1 : manyE u s = 2 := by rw [manyE_eq]; unfold manyEI; rw [if_pos h, if_neg ht]
        rw [if_pos (by simp; omega), e1, many_no e1 (by decide)]
        rfl
    · have e1 : manyE u s = 1 := by rw [manyE_eq]; unfold manyEI; rw [if_neg h]
      have hI : emI u d = 0 := by rw [emI_eq]; unfold emII; rw [if_neg h]
      have hS : emS u d = ByteArray.empty := by rw [emS_eq]; unfold emSI; rw [if_neg h]
      rw [if_pos (by simp [h]), if_neg h, e1, many_no e1 (by decide), hI, hS, eqS_iff.2 rfl]
      rfl
  rw [br_if]
  by_cases ht : t.length ≤ 64
  · rw [if_pos (by simp; omega), bnd_of (up_to _ 8 (c := 8) rfl), take_toE, grd_of hd]
    have hs : okW (t.take 8) = true := okW_iff.2 (ok_take (okW_iff.1 hok) 8)
    rw [grd_of hs]
    exact key _ hs (fun h => h)
  · rw [if_neg (by simp; omega), grd_of hd, grd_of hok]
    exact key _ hok (fun h => h)
noncomputable def lawEMakes_ent : List V → List Blk → Option (Bool × Out)
  | [w0, .s (.int .u64 d), w1], [] => (asSl .str w0).bind fun l => (asSl (.int .u64) w1).bind fun t => some (((decide (0 ≤ d) && decide (d < 18446744073709551616)) && okW t), (.s (.bool true), []))
  | _, _ => none
theorem lawEMakes_ok : ∀ args bs out, lawEMakes_ent args bs = some (true, out) → Fact Tryd.prog gTab 10 args bs out := by
  intro args bs out h
  unfold lawEMakes_ent at h
  split at h
  · rename_i w0 d w1
    obtain ⟨l, h_l, h⟩ := Option.bind_eq_some_iff.1 h
    obtain ⟨t, h_t, h⟩ := Option.bind_eq_some_iff.1 h
    simp only [Option.some.injEq, Prod.mk.injEq] at h
    obtain ⟨hg, rfl⟩ := h
    exact (lawEMakes_fact l d t hg).args (fun _ _ _ => fun _ h => RVs_two (fun _ h => RV_ls h_l h) (fun _ h => RVs_two (fun _ h => h) (fun _ h => RVs_two (fun _ h => RV_li h_t h) (fun _ h => h) h) h) h)
  · cases h
noncomputable def T_lawEMakes : Tbl := Tbl.cons 10 lawEMakes_ent T_ealive
theorem T_lawEMakes_ok : CallOk Tryd.prog gTab T_lawEMakes := cons_ok T_ealive_ok lawEMakes_ok
end Go.Proofs.YtfpdcfgjhkiklaaDoor
