/- The law MatrixRound: for every input it answers true, and its input reads behind the call as it read ahead of it. -/
import Derived.Test.YtfcedhejbnoinaaDoorRows
import Derived.Test.YtfcedhejbnoinaaDoorPRx10
import Derived.Test.YtfcedhejbnoinaaDoorPureMatrixRound
import Derived.Test.YtfcedhejbnoinaaDoorPRxO
import Derived.Test.YtfcedhejbnoinaaDoorVOpens
import Derived.Test.YtfcedhejbnoinaaDoorVFacts
import Derived.WalkKit
import Derived.ProofKit
import Derived.OpenShut
import Derived.ShutString
import Derived.ChangeOld
import Derived.Below
import Derived.SizedLaws
import Derived.Test.YtfcedhejbnoinaaDoorVDoor
import Derived.Test.YtfcedhejbnoinaaDoorCards
import Derived.Test.YtfcedhejbnoinaaDoorTie
import Derived.SevenTiedAt
import Derived.Handed
namespace Go.Proofs.YtfcedhejbnoinaaDoor.matrixRound
open Go.ChangeShapes Go.WideShapes Go.ChangeAt Go.RowKit
open Go.ChangeMaps (open_string shut_string)
open Go.Proofs.YtfcedhejbnoinaaDoor.PR Go.Proofs.YtfcedhejbnoinaaDoorW.PrintWords Go.Proofs.YtfcedhejbnoinaaDoorW.PrintLast Go.Proofs.YtfcedhejbnoinaaDoor
set_option linter.unusedVariables false
theorem own : ownKnob Tryd.prog.godebug = none := by kernel_rfl
theorem laidOut : laidOutB Tryd.prog = true := Facts.laidOut
set_option maxHeartbeats 8000000 in
set_option maxRecDepth 100000 in
theorem lifted (os : Os) (started : os.Started) (H : Type) (enc : TypeId × Value → H) :
  ReturnsInHanded {} Tryd.checked os 8 .any (fun w args => (Rows.matrixRoundSpec.pre enc Tryd.prog Tryd.f8 [] false w args ∧ laidMetH Tryd.prog Rows.matrixRoundRow.laid w) ∧ sizedMet enc Tryd.prog Tryd.f8 (OpenSpec.ofChange Rows.matrixRoundSpec) false w args) (Rows.matrixRoundSpec.post enc Tryd.prog Tryd.f8 false true false false) := by
 refine returnsInHanded_of_change_and (C := Tryd.checked) (X := fun w _ => laidMetH Tryd.prog Rows.matrixRoundRow.laid w) (fun _ _ _ hh h => h.of_heap hh) own started (by kernel_rfl) Tryd.func8
  (ChangeSpec.witness_at (enc := enc) (C := Tryd.checked) (os := os) (X := fun w _ => laidMetH Tryd.prog Rows.matrixRoundRow.laid w) false (Door.laidWorld os) #[.agg #[.int .i64 0, .slice none 0 0], .agg #[.int .i64 0, .slice none 0 0], .int .i64 0, .slice none 0 0] 8 rfl (by kernel_rfl) (by kernel_rfl) (by kernel_rfl) (by kernel_rfl) (by kernel_rfl) (Door.laidWorld_met os _)) ?_
 intro W base args ds gs before hval0 hW hcnd hsz0 hL _
 have hval : ∀ (j : Nat) t v, Tryd.f8.params[j]? = some t → args[j]? = some v → Value.okWide Tryd.prog W .any base t v := hval0
 have hW' := hW
 obtain ⟨p, q, hA0, hV, rfl, hfz, hnd⟩ := hW
 have hA : DataW.TrodAll enc Tryd.prog W 0 (fun _ => true) true Tryd.f8.params.toList args.toList ds p := hA0
 rw [Tryd.params8] at hA hval
 obtain ⟨v0, vs0, d0, ds0, p0, q0, hargs, rfl, rfl, h0, r0⟩ := trodAll_cons hA
 obtain ⟨v1, vs1, d1, ds1, p1, q1, rfl, rfl, rfl, h1, r1⟩ := trodAll_cons r0
 obtain ⟨v2, vs2, d2, ds2, p2, q2, rfl, rfl, rfl, h2, r2⟩ := trodAll_cons r1
 obtain ⟨v3, vs3, d3, ds3, p3, q3, rfl, rfl, rfl, h3, r3⟩ := trodAll_cons r2
 obtain ⟨rfl, rfl, rfl⟩ := trodAll_nil r3
 obtain rfl : args = #[v0, v1, v2, v3] := by cases args; simp_all
 obtain ⟨rfl, rfl⟩ := trodVars_none hV
 have k0 := h0
 have lt0 : ∀ x ∈ p0, x.block < W.heap.size := by obtain ⟨m, hm⟩ := k0; exact DataW.trod_lt m _ _ _ hm
 obtain ⟨x0, K0, Q0⟩ := Opens.Opens.arg (P := Tryd.prog) (W := W) opens55 h0
 obtain ⟨cs0, rfl, hcs0⟩ := okWide_struct Tryd.underlying55 (hval 0 55 v0 rfl rfl)
 obtain ⟨A0_1, c0_1, e0, hl0_1, hr0_1⟩ := k55_open K0
 obtain rfl : cs0 = #[.int .i64 x0.f0, .slice A0_1 x0.f1.length c0_1] := by rw [← Array.toList_inj]; simpa [Value.cells] using e0
 have k1 := h1
 have lt1 : ∀ x ∈ p1, x.block < W.heap.size := by obtain ⟨m, hm⟩ := k1; exact DataW.trod_lt m _ _ _ hm
 obtain ⟨x1, K1, Q1⟩ := Opens.Opens.arg (P := Tryd.prog) (W := W) opens55 h1
 obtain ⟨cs1, rfl, hcs1⟩ := okWide_struct Tryd.underlying55 (hval 1 55 v1 rfl rfl)
 obtain ⟨A1_1, c1_1, e1, hl1_1, hr1_1⟩ := k55_open K1
 obtain rfl : cs1 = #[.int .i64 x1.f0, .slice A1_1 x1.f1.length c1_1] := by rw [← Array.toList_inj]; simpa [Value.cells] using e1
 obtain ⟨x2, rfl, rfl, rfl, Q2⟩ := open_int Tryd.underlying3 (hval 2 3 v2 rfl rfl) h2
 have k3 := h3
 have lt3 : ∀ x ∈ p3, x.block < W.heap.size := by obtain ⟨m, hm⟩ := k3; exact DataW.trod_lt m _ _ _ hm
 obtain ⟨x3, K3, Q3⟩ := Opens.Opens.arg (P := Tryd.prog) (W := W) (Opens.opens_slice Tryd.underlying22 cells9 (Opens.opens_string Tryd.underlying9)) h3
 obtain ⟨a3, len3, cap3, rfl⟩ := okWide_slice Tryd.underlying22 (hval 3 22 v3 rfl rfl)
 obtain ⟨A3, c3, e3, hl3, hr3⟩ := K3
 have g3 : a3 = A3 ∧ len3 = x3.length ∧ cap3 = c3 := by simpa [Value.cells] using e3
 obtain ⟨s3, rfl, t3⟩ := g3
 obtain rfl := s3.symm
 obtain rfl := t3.symm
 clear hA0 hval0 hsz0
 obtain ⟨k, hk⟩ := Pure.MatrixRound x0 Q0 x1 Q1 x2 Q2 x3 Q3
 refine (downpourlaw03_MatrixRound.calls k x0.f0 A0_1 c0_1 x0.f1 x1.f0 A1_1 c1_1 x1.f1 x2 A3 c3 x3 true W (Door.tab_of_laid hL) hr0_1 hl0_1 hr1_1 hl1_1 hr3 hl3 hk).mono fun e W' ⟨he, bel⟩ => ?_
 subst he
 exact ⟨_, rfl, _, _, _, [], _, [], hW', trodAll_mk1 (shut_bool Tryd.underlying4 _), (trodAll_cons_mk (Below.trod laidOut (by kernel_rfl) (of_decide_eq_true (by kernel_rfl)) k0 bel lt0) (trodAll_cons_mk (Below.trod laidOut (by kernel_rfl) (of_decide_eq_true (by kernel_rfl)) k1 bel lt1) (trodAll_cons_mk (shut_int Tryd.underlying3 Q2) (trodAll_cons_mk (Below.trod laidOut (by kernel_rfl) (of_decide_eq_true (by kernel_rfl)) k3 bel lt3) trodAll_mk0)))), rfl, bel.frame _, fun h => by cases h⟩
theorem k0 : (Rows.matrixRoundRow.wf (OpenSpec.ofChange Rows.matrixRoundSpec)) = true := by kernel_rfl
theorem k3 : (Tryd.f8.params.all (Tryd.prog.readableRec ·)) = true := by kernel_rfl
theorem k4 : (namedTie Tryd.prog Rows.matrixRoundRow.named Rows.matrixRoundSpec.vars) = true := by kernel_rfl
theorem k5 : ((Rows.matrixRoundRow.stops == [])) = true := by kernel_rfl
theorem k6 : ((Tryd.prog.stops == [])) = true := by kernel_rfl
theorem k7 : ((Rows.matrixRoundRow.knobs == [])) = true := by kernel_rfl
theorem k8 : ((Tryd.prog.stopKnobs == [])) = true := by kernel_rfl
theorem k9 : ((Rows.matrixRoundRow.inPlace == Tryd.prog.inPlace 8)) = true := by kernel_rfl
theorem k10 : ((Rows.matrixRoundRow.unfollowed == Tryd.prog.unfollowed 8)) = true := by kernel_rfl
theorem k11 : ((Rows.matrixRoundRow.recurses == Tryd.prog.recurses 8)) = true := by kernel_rfl
theorem k12 : ((Rows.matrixRoundRow.named == Tryd.prog.varsNamed 8)) = true := by kernel_rfl
theorem k13 : ((Rows.matrixRoundRow.maps == (Tryd.f8.params.toList ++ Rows.matrixRoundSpec.plain.varTypes Tryd.prog).any (Tryd.prog.mapsRec ·))) = true := by kernel_rfl
theorem k14 : ((Rows.matrixRoundRow.ifaces == (Tryd.f8.params.toList ++ Rows.matrixRoundSpec.plain.varTypes Tryd.prog).any (Tryd.prog.ifacesRec ·))) = true := by kernel_rfl
theorem k15 : ((Rows.matrixRoundRow.mapsOut == Tryd.prog.mapsAmong Tryd.f8.resultTypes.toList)) = true := by kernel_rfl
theorem k16 : ((Rows.matrixRoundRow.loops == (Tryd.f8.params.toList ++ Rows.matrixRoundSpec.plain.varTypes Tryd.prog).any (Tryd.prog.loopsFrom ·))) = true := by kernel_rfl
theorem k17 : ((Rows.matrixRoundRow.wideKeys == (Tryd.f8.params.toList ++ Rows.matrixRoundSpec.plain.varTypes Tryd.prog ++ Tryd.f8.resultTypes.toList).any (Tryd.prog.wideKeysFrom ·))) = true := by kernel_rfl
theorem k18 : (Rows.matrixRoundSpec.vars.all (Tryd.prog.varReadable ·)) = true := by kernel_rfl
theorem k19 : (Tryd.f8.resultTypes.all (fun t => Tryd.prog.readableRec t && decide (t < Tryd.prog.types.size))) = true := by kernel_rfl
theorem k20 : ((Rows.matrixRoundRow.ifacesOut == Tryd.f8.resultTypes.toList.any (Tryd.prog.ifacesRec ·))) = true := by kernel_rfl
theorem k21 : ((Rows.matrixRoundRow.loopsOut == Tryd.f8.resultTypes.toList.any (Tryd.prog.loopsFrom ·))) = true := by kernel_rfl
theorem k22 : ((Rows.matrixRoundRow.plainKeys == Tryd.prog.plainKeys)) = true := by kernel_rfl
theorem k23 : (Rows.matrixRoundRow.shortTexts.isNone) = true := by kernel_rfl
theorem k26 : ((Rows.matrixRoundRow.lifted == Tryd.prog.liftsFinal)) = true := by kernel_rfl
theorem k27 : ((Tryd.prog.make == some Rows.matrixRoundRow.make)) = true := by kernel_rfl
theorem k28 : ((Rows.matrixRoundRow.kinds == (if Rows.matrixRoundRow.domain.isEmpty then [] else Tryd.f8.params.toList.map fun t => match Tryd.prog.underlying t with | some (.int k) => some k | _ => none))) = true := by kernel_rfl
theorem k29 : ((Rows.matrixRoundRow.pinned == Rows.matrixRoundRow.pinnedBy)) = true := by kernel_rfl
theorem k30 : ((Rows.matrixRoundRow.veiled == (Tryd.f8.params.toList ++ Rows.matrixRoundSpec.plain.varTypes Tryd.prog ++ Tryd.f8.resultTypes.toList).any (Tryd.prog.veiledRec ·))) = true := by kernel_rfl
theorem k31 : (Rows.matrixRoundRow.veiledFits Tryd.prog Tryd.f8.params.toList (Tryd.f8.params.toList ++ Rows.matrixRoundSpec.plain.varTypes Tryd.prog ++ Tryd.f8.resultTypes.toList)) = true := by kernel_rfl
set_option maxRecDepth 100000 in
theorem closed : joinedFacts Tryd.prog 8 Tryd.f8 Rows.matrixRoundSpec Rows.matrixRoundRow = true := by
 unfold joinedFacts
 exact Facts.andT (Facts.andT (Facts.andT (Facts.andT (Facts.andT (Facts.andT (Facts.andT (Facts.andT (Facts.andT (Facts.andT (Facts.andT (Facts.andT (Facts.andT (Facts.andT (Facts.andT (Facts.andT (Facts.andT (Facts.andT (Facts.andT (Facts.andT (Facts.andT (Facts.andT (Facts.andT (Facts.andT (Facts.andT (Facts.andT (Facts.andT (Facts.andT (Facts.andT (Facts.andT (Facts.andT (k0) Facts.laidOut) Facts.mapsRowed) k3) k4) k5) k6) k7) k8) k9) k10) k11) k12) k13) k14) k15) k16) k17) k18) k19) k20) k21) k22) k23) Facts.stopsHeard) Facts.mayEnter) k26) k27) k28) k29) k30) k31
theorem named_ : Tryd.prog.funcNamed Rows.matrixRoundRow.func = some 8 := by kernel_rfl
theorem inst_ : decide (Tryd.f8.isInstance Tryd.prog Rows.matrixRoundRow.origin Rows.matrixRoundRow.targs) = true := by kernel_rfl
theorem over : Rows.matrixRoundRow.holds Tryd.pinned (OpenSpec.ofChange Rows.matrixRoundSpec) :=
 OpenClaim.holds_of_wide 8 Tryd.f8 rfl rfl rfl rfl rfl rfl rfl ⟨rfl, rfl, rfl, rfl, rfl⟩ rfl rfl rfl rfl rfl named_ Tryd.func8 closed
  (of_decide_eq_true inst_) (by unfold Func.isWrapper; first | (rw [if_pos (by decide +kernel)]; kernel_rfl) | (rw [if_neg (by decide +kernel)]; exact ⟨rfl, rfl⟩))
  (fun os started H enc _ => lifted os started H enc)
theorem proved : Rows.MatrixRoundSaid := over
/-- The row's card: what it lists is tied to the program's text by the given tie. -/
theorem card : Rows.MatrixRoundCardSaid :=
  Claim7.holds_tied_plain_at .later [] [.data] true (true, "9e7a8f899bd286d8bc98563b4d28fca0e2a8e363fe54ef872c95701a0364b87d") false
    over (fun _ h => by cases h) (by kernel_rfl) (fun _ h => by cases h) matrixRound_row_tie rfl ⟨rfl, rfl⟩ (by kernel_rfl) rfl
    (fun f fn hf hfn => by
      obtain rfl : f = 8 := Option.some.inj (hf.symm.trans named_)
      obtain rfl : fn = Tryd.f8 := (Option.some.inj (Tryd.func8.symm.trans hfn)).symm
      exact ⟨by kernel_rfl, fun j t ht => Door.noStand (by kernel_rfl) j t ht⟩)
    (by kernel_rfl)
#print axioms card
end Go.Proofs.YtfcedhejbnoinaaDoor.matrixRound
namespace Go.Proofs.YtfcedhejbnoinaaDoor
/-- The card, under a short name, for the claim. -/
theorem matrixRound_holds : Rows.MatrixRoundCardSaid := matrixRound.card
end Go.Proofs.YtfcedhejbnoinaaDoor
