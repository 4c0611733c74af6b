/- The law BlockOrder: for every input it answers true, and its input reads behind the call as it read ahead of it. -/
import Derived.Test.YtfcedhejbnoinaaDoorRows
import Derived.Test.YtfcedhejbnoinaaDoorPEx4
import Derived.Test.YtfcedhejbnoinaaDoorPureBlockOrder
import Derived.Test.YtfcedhejbnoinaaDoorPExO
import Derived.Test.YtfcedhejbnoinaaDoorVOpens
import Derived.Test.YtfcedhejbnoinaaDoorVFacts
import Derived.WalkKit
import Derived.ProofKit
import Derived.OpenShut
import Derived.ShutString
import Derived.ChangeOld
import Derived.Below
import Derived.SizedLaws
import Derived.Test.YtfcedhejbnoinaaDoorVDoor
import Derived.Test.YtfcedhejbnoinaaDoorCards
import Derived.Test.YtfcedhejbnoinaaDoorTie
import Derived.SevenTiedAt
import Derived.Handed
namespace Go.Proofs.YtfcedhejbnoinaaDoor.blockOrder
open Go.ChangeShapes Go.WideShapes Go.ChangeAt Go.RowKit
open Go.ChangeMaps (open_string shut_string)
open Go.Proofs.YtfcedhejbnoinaaDoor.PE Go.Proofs.YtfcedhejbnoinaaDoorW.PrintWords Go.Proofs.YtfcedhejbnoinaaDoorW.PrintLast Go.Proofs.YtfcedhejbnoinaaDoor
set_option linter.unusedVariables false
theorem own : ownKnob Tryd.prog.godebug = none := by kernel_rfl
theorem laidOut : laidOutB Tryd.prog = true := Facts.laidOut
set_option maxHeartbeats 8000000 in
set_option maxRecDepth 100000 in
theorem lifted (os : Os) (started : os.Started) (H : Type) (enc : TypeId × Value → H) :
  ReturnsInHanded {} Tryd.checked os 6 .any (fun w args => (Rows.blockOrderSpec.pre enc Tryd.prog Tryd.f6 [] false w args ∧ laidMetH Tryd.prog Rows.blockOrderRow.laid w) ∧ sizedMet enc Tryd.prog Tryd.f6 (OpenSpec.ofChange Rows.blockOrderSpec) false w args) (Rows.blockOrderSpec.post enc Tryd.prog Tryd.f6 false true false false) := by
 refine returnsInHanded_of_change_and (C := Tryd.checked) (X := fun w _ => laidMetH Tryd.prog Rows.blockOrderRow.laid w) (fun _ _ _ hh h => h.of_heap hh) own started (by kernel_rfl) Tryd.func6
  (ChangeSpec.witness_at (enc := enc) (C := Tryd.checked) (os := os) (X := fun w _ => laidMetH Tryd.prog Rows.blockOrderRow.laid w) false (Door.laidWorld os) #[.int .i64 0, .slice none 0 0, .agg #[.int .i64 0, .slice none 0 0], .agg #[.int .i64 0, .slice none 0 0], .int .i64 0] 8 rfl (by kernel_rfl) (by kernel_rfl) (by kernel_rfl) (by kernel_rfl) (by kernel_rfl) (Door.laidWorld_met os _)) ?_
 intro W base args ds gs before hval0 hW hcnd hsz0 hL _
 have hval : ∀ (j : Nat) t v, Tryd.f6.params[j]? = some t → args[j]? = some v → Value.okWide Tryd.prog W .any base t v := hval0
 have hW' := hW
 obtain ⟨p, q, hA0, hV, rfl, hfz, hnd⟩ := hW
 have hA : DataW.TrodAll enc Tryd.prog W 0 (fun _ => true) true Tryd.f6.params.toList args.toList ds p := hA0
 rw [Tryd.params6] at hA hval
 obtain ⟨v0, vs0, d0, ds0, p0, q0, hargs, rfl, rfl, h0, r0⟩ := trodAll_cons hA
 obtain ⟨v1, vs1, d1, ds1, p1, q1, rfl, rfl, rfl, h1, r1⟩ := trodAll_cons r0
 obtain ⟨v2, vs2, d2, ds2, p2, q2, rfl, rfl, rfl, h2, r2⟩ := trodAll_cons r1
 obtain ⟨v3, vs3, d3, ds3, p3, q3, rfl, rfl, rfl, h3, r3⟩ := trodAll_cons r2
 obtain ⟨v4, vs4, d4, ds4, p4, q4, rfl, rfl, rfl, h4, r4⟩ := trodAll_cons r3
 obtain ⟨rfl, rfl, rfl⟩ := trodAll_nil r4
 obtain rfl : args = #[v0, v1, v2, v3, v4] := by cases args; simp_all
 obtain ⟨rfl, rfl⟩ := trodVars_none hV
 obtain ⟨x0, rfl, rfl, rfl, Q0⟩ := open_int Tryd.underlying3 (hval 0 3 v0 rfl rfl) h0
 have k1 := h1
 have lt1 : ∀ x ∈ p1, x.block < W.heap.size := by obtain ⟨m, hm⟩ := k1; exact DataW.trod_lt m _ _ _ hm
 obtain ⟨x1, K1, Q1⟩ := Opens.Opens.arg (P := Tryd.prog) (W := W) (Opens.opens_slice Tryd.underlying22 cells9 (Opens.opens_string Tryd.underlying9)) h1
 obtain ⟨a1, len1, cap1, rfl⟩ := okWide_slice Tryd.underlying22 (hval 1 22 v1 rfl rfl)
 obtain ⟨A1, c1, e1, hl1, hr1⟩ := K1
 have g1 : a1 = A1 ∧ len1 = x1.length ∧ cap1 = c1 := by simpa [Value.cells] using e1
 obtain ⟨s1, rfl, t1⟩ := g1
 obtain rfl := s1.symm
 obtain rfl := t1.symm
 have k2 := h2
 have lt2 : ∀ x ∈ p2, x.block < W.heap.size := by obtain ⟨m, hm⟩ := k2; exact DataW.trod_lt m _ _ _ hm
 obtain ⟨x2, K2, Q2⟩ := Opens.Opens.arg (P := Tryd.prog) (W := W) opens25 h2
 obtain ⟨cs2, rfl, hcs2⟩ := okWide_struct Tryd.underlying25 (hval 2 25 v2 rfl rfl)
 obtain ⟨A2_1, c2_1, e2, hl2_1, hr2_1⟩ := k25_open K2
 obtain rfl : cs2 = #[.int .i64 x2.f0, .slice A2_1 x2.f1.length c2_1] := by rw [← Array.toList_inj]; simpa [Value.cells] using e2
 have k3 := h3
 have lt3 : ∀ x ∈ p3, x.block < W.heap.size := by obtain ⟨m, hm⟩ := k3; exact DataW.trod_lt m _ _ _ hm
 obtain ⟨x3, K3, Q3⟩ := Opens.Opens.arg (P := Tryd.prog) (W := W) opens25 h3
 obtain ⟨cs3, rfl, hcs3⟩ := okWide_struct Tryd.underlying25 (hval 3 25 v3 rfl rfl)
 obtain ⟨A3_1, c3_1, e3, hl3_1, hr3_1⟩ := k25_open K3
 obtain rfl : cs3 = #[.int .i64 x3.f0, .slice A3_1 x3.f1.length c3_1] := by rw [← Array.toList_inj]; simpa [Value.cells] using e3
 obtain ⟨x4, rfl, rfl, rfl, Q4⟩ := open_int Tryd.underlying3 (hval 4 3 v4 rfl rfl) h4
 clear hA0 hval0 hsz0
 obtain ⟨k, hk⟩ := Pure.BlockOrder x0 Q0 x1 Q1 x2 Q2 x3 Q3 x4 Q4
 refine (downpourlaw02_BlockOrder.calls k x0 A1 c1 x1 x2.f0 A2_1 c2_1 x2.f1 x3.f0 A3_1 c3_1 x3.f1 x4 true W (Door.tab_of_laid hL) hr1 hl1 hr2_1 hl2_1 hr3_1 hl3_1 hk).mono fun e W' ⟨he, bel⟩ => ?_
 subst he
 exact ⟨_, rfl, _, _, _, [], _, [], hW', trodAll_mk1 (shut_bool Tryd.underlying4 _), (trodAll_cons_mk (shut_int Tryd.underlying3 Q0) (trodAll_cons_mk (Below.trod laidOut (by kernel_rfl) (of_decide_eq_true (by kernel_rfl)) k1 bel lt1) (trodAll_cons_mk (Below.trod laidOut (by kernel_rfl) (of_decide_eq_true (by kernel_rfl)) k2 bel lt2) (trodAll_cons_mk (Below.trod laidOut (by kernel_rfl) (of_decide_eq_true (by kernel_rfl)) k3 bel lt3) (trodAll_cons_mk (shut_int Tryd.underlying3 Q4) trodAll_mk0))))), rfl, bel.frame _, fun h => by cases h⟩
theorem k0 : (Rows.blockOrderRow.wf (OpenSpec.ofChange Rows.blockOrderSpec)) = true := by kernel_rfl
theorem k3 : (Tryd.f6.params.all (Tryd.prog.readableRec ·)) = true := by kernel_rfl
theorem k4 : (namedTie Tryd.prog Rows.blockOrderRow.named Rows.blockOrderSpec.vars) = true := by kernel_rfl
theorem k5 : ((Rows.blockOrderRow.stops == [])) = true := by kernel_rfl
theorem k6 : ((Tryd.prog.stops == [])) = true := by kernel_rfl
theorem k7 : ((Rows.blockOrderRow.knobs == [])) = true := by kernel_rfl
theorem k8 : ((Tryd.prog.stopKnobs == [])) = true := by kernel_rfl
theorem k9 : ((Rows.blockOrderRow.inPlace == Tryd.prog.inPlace 6)) = true := by kernel_rfl
theorem k10 : ((Rows.blockOrderRow.unfollowed == Tryd.prog.unfollowed 6)) = true := by kernel_rfl
theorem k11 : ((Rows.blockOrderRow.recurses == Tryd.prog.recurses 6)) = true := by kernel_rfl
theorem k12 : ((Rows.blockOrderRow.named == Tryd.prog.varsNamed 6)) = true := by kernel_rfl
theorem k13 : ((Rows.blockOrderRow.maps == (Tryd.f6.params.toList ++ Rows.blockOrderSpec.plain.varTypes Tryd.prog).any (Tryd.prog.mapsRec ·))) = true := by kernel_rfl
theorem k14 : ((Rows.blockOrderRow.ifaces == (Tryd.f6.params.toList ++ Rows.blockOrderSpec.plain.varTypes Tryd.prog).any (Tryd.prog.ifacesRec ·))) = true := by kernel_rfl
theorem k15 : ((Rows.blockOrderRow.mapsOut == Tryd.prog.mapsAmong Tryd.f6.resultTypes.toList)) = true := by kernel_rfl
theorem k16 : ((Rows.blockOrderRow.loops == (Tryd.f6.params.toList ++ Rows.blockOrderSpec.plain.varTypes Tryd.prog).any (Tryd.prog.loopsFrom ·))) = true := by kernel_rfl
theorem k17 : ((Rows.blockOrderRow.wideKeys == (Tryd.f6.params.toList ++ Rows.blockOrderSpec.plain.varTypes Tryd.prog ++ Tryd.f6.resultTypes.toList).any (Tryd.prog.wideKeysFrom ·))) = true := by kernel_rfl
theorem k18 : (Rows.blockOrderSpec.vars.all (Tryd.prog.varReadable ·)) = true := by kernel_rfl
theorem k19 : (Tryd.f6.resultTypes.all (fun t => Tryd.prog.readableRec t && decide (t < Tryd.prog.types.size))) = true := by kernel_rfl
theorem k20 : ((Rows.blockOrderRow.ifacesOut == Tryd.f6.resultTypes.toList.any (Tryd.prog.ifacesRec ·))) = true := by kernel_rfl
theorem k21 : ((Rows.blockOrderRow.loopsOut == Tryd.f6.resultTypes.toList.any (Tryd.prog.loopsFrom ·))) = true := by kernel_rfl
theorem k22 : ((Rows.blockOrderRow.plainKeys == Tryd.prog.plainKeys)) = true := by kernel_rfl
theorem k23 : (Rows.blockOrderRow.shortTexts.isNone) = true := by kernel_rfl
theorem k26 : ((Rows.blockOrderRow.lifted == Tryd.prog.liftsFinal)) = true := by kernel_rfl
theorem k27 : ((Tryd.prog.make == some Rows.blockOrderRow.make)) = true := by kernel_rfl
theorem k28 : ((Rows.blockOrderRow.kinds == (if Rows.blockOrderRow.domain.isEmpty then [] else Tryd.f6.params.toList.map fun t => match Tryd.prog.underlying t with | some (.int k) => some k | _ => none))) = true := by kernel_rfl
theorem k29 : ((Rows.blockOrderRow.pinned == Rows.blockOrderRow.pinnedBy)) = true := by kernel_rfl
theorem k30 : ((Rows.blockOrderRow.veiled == (Tryd.f6.params.toList ++ Rows.blockOrderSpec.plain.varTypes Tryd.prog ++ Tryd.f6.resultTypes.toList).any (Tryd.prog.veiledRec ·))) = true := by kernel_rfl
theorem k31 : (Rows.blockOrderRow.veiledFits Tryd.prog Tryd.f6.params.toList (Tryd.f6.params.toList ++ Rows.blockOrderSpec.plain.varTypes Tryd.prog ++ Tryd.f6.resultTypes.toList)) = true := by kernel_rfl
set_option maxRecDepth 100000 in
theorem closed : joinedFacts Tryd.prog 6 Tryd.f6 Rows.blockOrderSpec Rows.blockOrderRow = true := by
 unfold joinedFacts
 exact Facts.andT (Facts.andT (Facts.andT (Facts.andT (Facts.andT (Facts.andT (Facts.andT (Facts.andT (Facts.andT (Facts.andT (Facts.andT (Facts.andT (Facts.andT (Facts.andT (Facts.andT (Facts.andT (Facts.andT (Facts.andT (Facts.andT (Facts.andT (Facts.andT (Facts.andT (Facts.andT (Facts.andT (Facts.andT (Facts.andT (Facts.andT (Facts.andT (Facts.andT (Facts.andT (Facts.andT (k0) Facts.laidOut) Facts.mapsRowed) k3) k4) k5) k6) k7) k8) k9) k10) k11) k12) k13) k14) k15) k16) k17) k18) k19) k20) k21) k22) k23) Facts.stopsHeard) Facts.mayEnter) k26) k27) k28) k29) k30) k31
theorem named_ : Tryd.prog.funcNamed Rows.blockOrderRow.func = some 6 := by kernel_rfl
theorem inst_ : decide (Tryd.f6.isInstance Tryd.prog Rows.blockOrderRow.origin Rows.blockOrderRow.targs) = true := by kernel_rfl
theorem over : Rows.blockOrderRow.holds Tryd.pinned (OpenSpec.ofChange Rows.blockOrderSpec) :=
 OpenClaim.holds_of_wide 6 Tryd.f6 rfl rfl rfl rfl rfl rfl rfl ⟨rfl, rfl, rfl, rfl, rfl⟩ rfl rfl rfl rfl rfl named_ Tryd.func6 closed
  (of_decide_eq_true inst_) (by unfold Func.isWrapper; first | (rw [if_pos (by decide +kernel)]; kernel_rfl) | (rw [if_neg (by decide +kernel)]; exact ⟨rfl, rfl⟩))
  (fun os started H enc _ => lifted os started H enc)
theorem proved : Rows.BlockOrderSaid := over
/-- The row's card: what it lists is tied to the program's text by the given tie. -/
theorem card : Rows.BlockOrderCardSaid :=
  Claim7.holds_tied_plain_at .later [] [.data] true (true, "9e7a8f899bd286d8bc98563b4d28fca0e2a8e363fe54ef872c95701a0364b87d") false
    over (fun _ h => by cases h) (by kernel_rfl) (fun _ h => by cases h) blockOrder_row_tie rfl ⟨rfl, rfl⟩ (by kernel_rfl) rfl
    (fun f fn hf hfn => by
      obtain rfl : f = 6 := Option.some.inj (hf.symm.trans named_)
      obtain rfl : fn = Tryd.f6 := (Option.some.inj (Tryd.func6.symm.trans hfn)).symm
      exact ⟨by kernel_rfl, fun j t ht => Door.noStand (by kernel_rfl) j t ht⟩)
    (by kernel_rfl)
#print axioms card
end Go.Proofs.YtfcedhejbnoinaaDoor.blockOrder
namespace Go.Proofs.YtfcedhejbnoinaaDoor
/-- The card, under a short name, for the claim. -/
theorem blockOrder_holds : Rows.BlockOrderCardSaid := blockOrder.card
end Go.Proofs.YtfcedhejbnoinaaDoor
