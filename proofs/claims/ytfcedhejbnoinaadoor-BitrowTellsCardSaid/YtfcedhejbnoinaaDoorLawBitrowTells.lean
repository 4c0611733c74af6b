/- The law BitrowTells: for every input it answers true, and its input reads behind the call as it read ahead of it. -/
import Derived.Test.YtfcedhejbnoinaaDoorRows
import Derived.Test.YtfcedhejbnoinaaDoorPAx3
import Derived.Test.YtfcedhejbnoinaaDoorPureBitrowTells
import Derived.Test.YtfcedhejbnoinaaDoorPAxO
import Derived.Test.YtfcedhejbnoinaaDoorVOpens
import Derived.Test.YtfcedhejbnoinaaDoorVFacts
import Derived.WalkKit
import Derived.ProofKit
import Derived.OpenShut
import Derived.ShutString
import Derived.ChangeOld
import Derived.Below
import Derived.SizedLaws
import Derived.Test.YtfcedhejbnoinaaDoorVDoor
import Derived.Test.YtfcedhejbnoinaaDoorCards
import Derived.Test.YtfcedhejbnoinaaDoorTie
import Derived.SevenTiedAt
import Derived.Handed
namespace Go.Proofs.YtfcedhejbnoinaaDoor.bitrowTells
open Go.ChangeShapes Go.WideShapes Go.ChangeAt Go.RowKit
open Go.ChangeMaps (open_string shut_string)
open Go.Proofs.YtfcedhejbnoinaaDoor.PA Go.Proofs.YtfcedhejbnoinaaDoorW.PrintWords Go.Proofs.YtfcedhejbnoinaaDoorW.PrintLast Go.Proofs.YtfcedhejbnoinaaDoor
set_option linter.unusedVariables false
theorem own : ownKnob Tryd.prog.godebug = none := by kernel_rfl
theorem laidOut : laidOutB Tryd.prog = true := Facts.laidOut
set_option maxHeartbeats 8000000 in
set_option maxRecDepth 100000 in
theorem lifted (os : Os) (started : os.Started) (H : Type) (enc : TypeId × Value → H) :
  ReturnsInHanded {} Tryd.checked os 4 .any (fun w args => (Rows.bitrowTellsSpec.pre enc Tryd.prog Tryd.f4 [] false w args ∧ laidMetH Tryd.prog Rows.bitrowTellsRow.laid w) ∧ sizedMet enc Tryd.prog Tryd.f4 (OpenSpec.ofChange Rows.bitrowTellsSpec) false w args) (Rows.bitrowTellsSpec.post enc Tryd.prog Tryd.f4 false true false false) := by
 refine returnsInHanded_of_change_and (C := Tryd.checked) (X := fun w _ => laidMetH Tryd.prog Rows.bitrowTellsRow.laid w) (fun _ _ _ hh h => h.of_heap hh) own started (by kernel_rfl) Tryd.func4
  (ChangeSpec.witness_at (enc := enc) (C := Tryd.checked) (os := os) (X := fun w _ => laidMetH Tryd.prog Rows.bitrowTellsRow.laid w) false (Door.laidWorld os) #[.agg #[.int .i64 0, .slice none 0 0], .int .i64 0] 8 rfl (by kernel_rfl) (by kernel_rfl) (by kernel_rfl) (by kernel_rfl) (by kernel_rfl) (Door.laidWorld_met os _)) ?_
 intro W base args ds gs before hval0 hW hcnd hsz0 hL _
 have hval : ∀ (j : Nat) t v, Tryd.f4.params[j]? = some t → args[j]? = some v → Value.okWide Tryd.prog W .any base t v := hval0
 have hW' := hW
 obtain ⟨p, q, hA0, hV, rfl, hfz, hnd⟩ := hW
 have hA : DataW.TrodAll enc Tryd.prog W 0 (fun _ => true) true Tryd.f4.params.toList args.toList ds p := hA0
 rw [Tryd.params4] at hA hval
 obtain ⟨v0, vs0, d0, ds0, p0, q0, hargs, rfl, rfl, h0, r0⟩ := trodAll_cons hA
 obtain ⟨v1, vs1, d1, ds1, p1, q1, rfl, rfl, rfl, h1, r1⟩ := trodAll_cons r0
 obtain ⟨rfl, rfl, rfl⟩ := trodAll_nil r1
 obtain rfl : args = #[v0, v1] := by cases args; simp_all
 obtain ⟨rfl, rfl⟩ := trodVars_none hV
 have k0 := h0
 have lt0 : ∀ x ∈ p0, x.block < W.heap.size := by obtain ⟨m, hm⟩ := k0; exact DataW.trod_lt m _ _ _ hm
 obtain ⟨x0, K0, Q0⟩ := Opens.Opens.arg (P := Tryd.prog) (W := W) opens25 h0
 obtain ⟨cs0, rfl, hcs0⟩ := okWide_struct Tryd.underlying25 (hval 0 25 v0 rfl rfl)
 obtain ⟨A0_1, c0_1, e0, hl0_1, hr0_1⟩ := k25_open K0
 obtain rfl : cs0 = #[.int .i64 x0.f0, .slice A0_1 x0.f1.length c0_1] := by rw [← Array.toList_inj]; simpa [Value.cells] using e0
 obtain ⟨x1, rfl, rfl, rfl, Q1⟩ := open_int Tryd.underlying3 (hval 1 3 v1 rfl rfl) h1
 clear hA0 hval0 hsz0
 obtain ⟨k, hk⟩ := Pure.BitrowTells x0 Q0 x1 Q1
 refine (downpourlaw01_BitrowTells.calls k x0.f0 A0_1 c0_1 x0.f1 x1 true W (Door.tab_of_laid hL) hr0_1 hl0_1 hk).mono fun e W' ⟨he, bel⟩ => ?_
 subst he
 exact ⟨_, rfl, _, _, _, [], _, [], hW', trodAll_mk1 (shut_bool Tryd.underlying4 _), (trodAll_cons_mk (Below.trod laidOut (by kernel_rfl) (of_decide_eq_true (by kernel_rfl)) k0 bel lt0) (trodAll_cons_mk (shut_int Tryd.underlying3 Q1) trodAll_mk0)), rfl, bel.frame _, fun h => by cases h⟩
theorem k0 : (Rows.bitrowTellsRow.wf (OpenSpec.ofChange Rows.bitrowTellsSpec)) = true := by kernel_rfl
theorem k3 : (Tryd.f4.params.all (Tryd.prog.readableRec ·)) = true := by kernel_rfl
theorem k4 : (namedTie Tryd.prog Rows.bitrowTellsRow.named Rows.bitrowTellsSpec.vars) = true := by kernel_rfl
theorem k5 : ((Rows.bitrowTellsRow.stops == [])) = true := by kernel_rfl
theorem k6 : ((Tryd.prog.stops == [])) = true := by kernel_rfl
theorem k7 : ((Rows.bitrowTellsRow.knobs == [])) = true := by kernel_rfl
theorem k8 : ((Tryd.prog.stopKnobs == [])) = true := by kernel_rfl
theorem k9 : ((Rows.bitrowTellsRow.inPlace == Tryd.prog.inPlace 4)) = true := by kernel_rfl
theorem k10 : ((Rows.bitrowTellsRow.unfollowed == Tryd.prog.unfollowed 4)) = true := by kernel_rfl
theorem k11 : ((Rows.bitrowTellsRow.recurses == Tryd.prog.recurses 4)) = true := by kernel_rfl
theorem k12 : ((Rows.bitrowTellsRow.named == Tryd.prog.varsNamed 4)) = true := by kernel_rfl
theorem k13 : ((Rows.bitrowTellsRow.maps == (Tryd.f4.params.toList ++ Rows.bitrowTellsSpec.plain.varTypes Tryd.prog).any (Tryd.prog.mapsRec ·))) = true := by kernel_rfl
theorem k14 : ((Rows.bitrowTellsRow.ifaces == (Tryd.f4.params.toList ++ Rows.bitrowTellsSpec.plain.varTypes Tryd.prog).any (Tryd.prog.ifacesRec ·))) = true := by kernel_rfl
theorem k15 : ((Rows.bitrowTellsRow.mapsOut == Tryd.prog.mapsAmong Tryd.f4.resultTypes.toList)) = true := by kernel_rfl
theorem k16 : ((Rows.bitrowTellsRow.loops == (Tryd.f4.params.toList ++ Rows.bitrowTellsSpec.plain.varTypes Tryd.prog).any (Tryd.prog.loopsFrom ·))) = true := by kernel_rfl
theorem k17 : ((Rows.bitrowTellsRow.wideKeys == (Tryd.f4.params.toList ++ Rows.bitrowTellsSpec.plain.varTypes Tryd.prog ++ Tryd.f4.resultTypes.toList).any (Tryd.prog.wideKeysFrom ·))) = true := by kernel_rfl
theorem k18 : (Rows.bitrowTellsSpec.vars.all (Tryd.prog.varReadable ·)) = true := by kernel_rfl
theorem k19 : (Tryd.f4.resultTypes.all (fun t => Tryd.prog.readableRec t && decide (t < Tryd.prog.types.size))) = true := by kernel_rfl
theorem k20 : ((Rows.bitrowTellsRow.ifacesOut == Tryd.f4.resultTypes.toList.any (Tryd.prog.ifacesRec ·))) = true := by kernel_rfl
theorem k21 : ((Rows.bitrowTellsRow.loopsOut == Tryd.f4.resultTypes.toList.any (Tryd.prog.loopsFrom ·))) = true := by kernel_rfl
theorem k22 : ((Rows.bitrowTellsRow.plainKeys == Tryd.prog.plainKeys)) = true := by kernel_rfl
theorem k23 : (Rows.bitrowTellsRow.shortTexts.isNone) = true := by kernel_rfl
theorem k26 : ((Rows.bitrowTellsRow.lifted == Tryd.prog.liftsFinal)) = true := by kernel_rfl
theorem k27 : ((Tryd.prog.make == some Rows.bitrowTellsRow.make)) = true := by kernel_rfl
theorem k28 : ((Rows.bitrowTellsRow.kinds == (if Rows.bitrowTellsRow.domain.isEmpty then [] else Tryd.f4.params.toList.map fun t => match Tryd.prog.underlying t with | some (.int k) => some k | _ => none))) = true := by kernel_rfl
theorem k29 : ((Rows.bitrowTellsRow.pinned == Rows.bitrowTellsRow.pinnedBy)) = true := by kernel_rfl
theorem k30 : ((Rows.bitrowTellsRow.veiled == (Tryd.f4.params.toList ++ Rows.bitrowTellsSpec.plain.varTypes Tryd.prog ++ Tryd.f4.resultTypes.toList).any (Tryd.prog.veiledRec ·))) = true := by kernel_rfl
theorem k31 : (Rows.bitrowTellsRow.veiledFits Tryd.prog Tryd.f4.params.toList (Tryd.f4.params.toList ++ Rows.bitrowTellsSpec.plain.varTypes Tryd.prog ++ Tryd.f4.resultTypes.toList)) = true := by kernel_rfl
set_option maxRecDepth 100000 in
theorem closed : joinedFacts Tryd.prog 4 Tryd.f4 Rows.bitrowTellsSpec Rows.bitrowTellsRow = true := by
 unfold joinedFacts
 exact Facts.andT (Facts.andT (Facts.andT (Facts.andT (Facts.andT (Facts.andT (Facts.andT (Facts.andT (Facts.andT (Facts.andT (Facts.andT (Facts.andT (Facts.andT (Facts.andT (Facts.andT (Facts.andT (Facts.andT (Facts.andT (Facts.andT (Facts.andT (Facts.andT (Facts.andT (Facts.andT (Facts.andT (Facts.andT (Facts.andT (Facts.andT (Facts.andT (Facts.andT (Facts.andT (Facts.andT (k0) Facts.laidOut) Facts.mapsRowed) k3) k4) k5) k6) k7) k8) k9) k10) k11) k12) k13) k14) k15) k16) k17) k18) k19) k20) k21) k22) k23) Facts.stopsHeard) Facts.mayEnter) k26) k27) k28) k29) k30) k31
theorem named_ : Tryd.prog.funcNamed Rows.bitrowTellsRow.func = some 4 := by kernel_rfl
theorem inst_ : decide (Tryd.f4.isInstance Tryd.prog Rows.bitrowTellsRow.origin Rows.bitrowTellsRow.targs) = true := by kernel_rfl
theorem over : Rows.bitrowTellsRow.holds Tryd.pinned (OpenSpec.ofChange Rows.bitrowTellsSpec) :=
 OpenClaim.holds_of_wide 4 Tryd.f4 rfl rfl rfl rfl rfl rfl rfl ⟨rfl, rfl, rfl, rfl, rfl⟩ rfl rfl rfl rfl rfl named_ Tryd.func4 closed
  (of_decide_eq_true inst_) (by unfold Func.isWrapper; first | (rw [if_pos (by decide +kernel)]; kernel_rfl) | (rw [if_neg (by decide +kernel)]; exact ⟨rfl, rfl⟩))
  (fun os started H enc _ => lifted os started H enc)
theorem proved : Rows.BitrowTellsSaid := over
/-- The row's card: what it lists is tied to the program's text by the given tie. -/
theorem card : Rows.BitrowTellsCardSaid :=
  Claim7.holds_tied_plain_at .later [] [.data] true (true, "9e7a8f899bd286d8bc98563b4d28fca0e2a8e363fe54ef872c95701a0364b87d") false
    over (fun _ h => by cases h) (by kernel_rfl) (fun _ h => by cases h) bitrowTells_row_tie rfl ⟨rfl, rfl⟩ (by kernel_rfl) rfl
    (fun f fn hf hfn => by
      obtain rfl : f = 4 := Option.some.inj (hf.symm.trans named_)
      obtain rfl : fn = Tryd.f4 := (Option.some.inj (Tryd.func4.symm.trans hfn)).symm
      exact ⟨by kernel_rfl, fun j t ht => Door.noStand (by kernel_rfl) j t ht⟩)
    (by kernel_rfl)
#print axioms card
end Go.Proofs.YtfcedhejbnoinaaDoor.bitrowTells
namespace Go.Proofs.YtfcedhejbnoinaaDoor
/-- The card, under a short name, for the claim. -/
theorem bitrowTells_holds : Rows.BitrowTellsCardSaid := bitrowTells.card
end Go.Proofs.YtfcedhejbnoinaaDoor
