/- The law BlockZero: for every input it answers true, and its input reads behind the call as it read ahead of it. -/
import Derived.Test.YtleagoeimkcekaaDoorRows
import Derived.Test.YtleagoeimkcekaaDoorBlk
import Derived.Test.YtleagoeimkcekaaDoorDoorB
import Derived.WalkKit
import Derived.ProofKit
import Derived.OpenShut
import Derived.ShutString
import Derived.ChangeOld
import Derived.Below
import Derived.SizedLaws
import Derived.JoinedOf
import Derived.Test.YtleagoeimkcekaaDoorCards
import Derived.Test.YtleagoeimkcekaaDoorTie
import Derived.SevenTiedAt
import Derived.Handed
namespace Go.Proofs.YtleagoeimkcekaaDoor.blockZero
open Go.ChangeShapes Go.WideShapes Go.ChangeAt Go.RowKit Go.PM
open Go.ChangeMaps (open_string shut_string)
open Go.Proofs.YtleagoeimkcekaaDoor
set_option linter.unusedVariables false
theorem k0 : (Rows.blockZeroRow.wf (OpenSpec.ofChange Rows.blockZeroSpec)) = true := by kernel_rfl
theorem k3 : (Tryd.f13.params.all (Tryd.prog.readableRec ·)) = true := by kernel_rfl
theorem k4 : (namedTie Tryd.prog Rows.blockZeroRow.named Rows.blockZeroSpec.vars) = true := by kernel_rfl
theorem k5 : ((Rows.blockZeroRow.stops == [])) = true := by kernel_rfl
theorem k6 : ((Tryd.prog.stops == [])) = true := by kernel_rfl
theorem k7 : ((Rows.blockZeroRow.knobs == [])) = true := by kernel_rfl
theorem k8 : ((Tryd.prog.stopKnobs == [])) = true := by kernel_rfl
theorem k9 : ((Rows.blockZeroRow.inPlace == Tryd.prog.inPlace 13)) = true := by kernel_rfl
theorem k10 : ((Rows.blockZeroRow.unfollowed == Tryd.prog.unfollowed 13)) = true := by kernel_rfl
theorem k11 : ((Rows.blockZeroRow.recurses == Tryd.prog.recurses 13)) = true := by kernel_rfl
theorem k12 : ((Rows.blockZeroRow.named == Tryd.prog.varsNamed 13)) = true := by kernel_rfl
theorem k13 : ((Rows.blockZeroRow.maps == (Tryd.f13.params.toList ++ Rows.blockZeroSpec.plain.varTypes Tryd.prog).any (Tryd.prog.mapsRec ·))) = true := by kernel_rfl
theorem k14 : ((Rows.blockZeroRow.ifaces == (Tryd.f13.params.toList ++ Rows.blockZeroSpec.plain.varTypes Tryd.prog).any (Tryd.prog.ifacesRec ·))) = true := by kernel_rfl
theorem k15 : ((Rows.blockZeroRow.mapsOut == Tryd.prog.mapsAmong Tryd.f13.resultTypes.toList)) = true := by kernel_rfl
theorem k16 : ((Rows.blockZeroRow.loops == (Tryd.f13.params.toList ++ Rows.blockZeroSpec.plain.varTypes Tryd.prog).any (Tryd.prog.loopsFrom ·))) = true := by kernel_rfl
theorem k17 : ((Rows.blockZeroRow.wideKeys == (Tryd.f13.params.toList ++ Rows.blockZeroSpec.plain.varTypes Tryd.prog ++ Tryd.f13.resultTypes.toList).any (Tryd.prog.wideKeysFrom ·))) = true := by kernel_rfl
theorem k18 : (Rows.blockZeroSpec.vars.all (Tryd.prog.varReadable ·)) = true := by kernel_rfl
theorem k19 : (Tryd.f13.resultTypes.all (fun t => Tryd.prog.readableRec t && decide (t < Tryd.prog.types.size))) = true := by kernel_rfl
theorem k20 : ((Rows.blockZeroRow.ifacesOut == Tryd.f13.resultTypes.toList.any (Tryd.prog.ifacesRec ·))) = true := by kernel_rfl
theorem k21 : ((Rows.blockZeroRow.loopsOut == Tryd.f13.resultTypes.toList.any (Tryd.prog.loopsFrom ·))) = true := by kernel_rfl
theorem k22 : ((Rows.blockZeroRow.plainKeys == Tryd.prog.plainKeys)) = true := by kernel_rfl
theorem k23 : (Rows.blockZeroRow.shortTexts.isNone) = true := by kernel_rfl
theorem k26 : ((Rows.blockZeroRow.lifted == Tryd.prog.liftsFinal)) = true := by kernel_rfl
theorem k27 : ((Tryd.prog.make == some Rows.blockZeroRow.make)) = true := by kernel_rfl
theorem k28 : ((Rows.blockZeroRow.kinds == (if Rows.blockZeroRow.domain.isEmpty then [] else Tryd.f13.params.toList.map fun t => match Tryd.prog.underlying t with | some (.int k) => some k | _ => none))) = true := by kernel_rfl
theorem k29 : ((Rows.blockZeroRow.pinned == Rows.blockZeroRow.pinnedBy)) = true := by kernel_rfl
theorem k30 : ((Rows.blockZeroRow.veiled == (Tryd.f13.params.toList ++ Rows.blockZeroSpec.plain.varTypes Tryd.prog ++ Tryd.f13.resultTypes.toList).any (Tryd.prog.veiledRec ·))) = true := by kernel_rfl
theorem k31 : (Rows.blockZeroRow.veiledFits Tryd.prog Tryd.f13.params.toList (Tryd.f13.params.toList ++ Rows.blockZeroSpec.plain.varTypes Tryd.prog ++ Tryd.f13.resultTypes.toList)) = true := by kernel_rfl
theorem andT {a b : Bool} (ha : a = true) (hb : b = true) : (a && b) = true := by rw [ha, hb]; rfl
theorem laidOut_ : laidOutB Tryd.prog = true := by kernel_rfl
theorem mapsRowed_ : mapsRowed Tryd.prog = true := by kernel_rfl
theorem stopsHeard_ : Tryd.prog.stopsHeard = true := by kernel_rfl
theorem mayEnter_ : Tryd.prog.mayEnter = true := by kernel_rfl
set_option maxRecDepth 100000 in
theorem closed : joinedFacts Tryd.prog 13 Tryd.f13 Rows.blockZeroSpec Rows.blockZeroRow = true := by
 unfold joinedFacts
 exact (andT (andT (andT (andT (andT (andT (andT (andT (andT (andT (andT (andT (andT (andT (andT (andT (andT (andT (andT (andT (andT (andT (andT (andT (andT (andT (andT (andT (andT (andT (andT (k0) laidOut_) mapsRowed_) k3) k4) k5) k6) k7) k8) k9) k10) k11) k12) k13) k14) k15) k16) k17) k18) k19) k20) k21) k22) k23) stopsHeard_) mayEnter_) k26) k27) k28) k29) k30) k31)
theorem own : ownKnob Tryd.prog.godebug = none := by kernel_rfl
set_option maxHeartbeats 8000000 in
set_option maxRecDepth 100000 in
theorem lifted (os : Os) (started : os.Started) (H : Type) (enc : TypeId × Value → H) :
  ReturnsInHanded {} Tryd.checked os 13 .any (fun w args => (Rows.blockZeroSpec.pre enc Tryd.prog Tryd.f13 [] false w args ∧ laidMetH Tryd.prog Rows.blockZeroRow.laid w) ∧ sizedMet enc Tryd.prog Tryd.f13 (OpenSpec.ofChange Rows.blockZeroSpec) false w args) (Rows.blockZeroSpec.post enc Tryd.prog Tryd.f13 false true false false) := by
 refine returnsInHanded_of_change_and (C := Tryd.checked) (X := fun w _ => laidMetH Tryd.prog Rows.blockZeroRow.laid w) (fun _ _ _ hh h => h.of_heap hh) own started (by kernel_rfl) Tryd.func13
  (ChangeSpec.witness_at (enc := enc) (C := Tryd.checked) (os := os) (X := fun w _ => laidMetH Tryd.prog Rows.blockZeroRow.laid w) false (DoorB.laidWorld os) #[.string ⟨#[]⟩] 8 rfl (by kernel_rfl) (by kernel_rfl) (by kernel_rfl) (by kernel_rfl) (by kernel_rfl) (DoorB.laidWorld_met os _)) ?_
 intro W base args ds gs before hval0 hW hcnd hsz0 hL _
 have hval : ∀ (j : Nat) t v, Tryd.f13.params[j]? = some t → args[j]? = some v → Value.okWide Tryd.prog W .any base t v := hval0
 have hW' := hW
 obtain ⟨p, q, hA0, hV, rfl, hfz, hnd⟩ := hW
 have hA : DataW.TrodAll enc Tryd.prog W 0 (fun _ => true) true Tryd.f13.params.toList args.toList ds p := hA0
 rw [Tryd.params13] at hA hval
 obtain ⟨v0, vs0, d0, ds0, p0, q0, hargs, rfl, rfl, h0, r0⟩ := trodAll_cons hA
 obtain ⟨rfl, rfl, rfl⟩ := trodAll_nil r0
 obtain rfl : args = #[v0] := by cases args; simp_all
 obtain ⟨rfl, rfl⟩ := trodVars_none hV
 have k0_ := h0
 have lt0 : ∀ x ∈ p0, x.block < W.heap.size := by obtain ⟨m, hm⟩ := k0_; exact DataW.trod_lt m _ _ _ hm
 obtain ⟨x0, rfl, rfl, rfl, Q0⟩ := open_string Tryd.underlying9 (hval 0 9 v0 rfl rfl) h0
 have R0 : RV (allB W) PM.nil W (.s (.string x0)) (.string x0) := by simp only [RV]
 clear hA0 hval0 hsz0
 have hx := (RVs_cons R0 RVs_nil)
 refine (law_end (G := noG) (lawZero_fact (x0)) (DoorB.glob_of_laid hL) hx).mono fun e W' ⟨he, bel⟩ => ?_
 subst he
 exact ⟨_, rfl, _, _, _, [], _, [], hW', trodAll_mk1 (shut_bool Tryd.underlying4 _), (trodAll_cons_mk (Below.trod laidOut_ (by kernel_rfl) (of_decide_eq_true (by kernel_rfl)) k0_ bel lt0) trodAll_mk0), rfl, bel.frame _, fun h => by cases h⟩
theorem named_ : Tryd.prog.funcNamed Rows.blockZeroRow.func = some 13 := by kernel_rfl
theorem inst_ : decide (Tryd.f13.isInstance Tryd.prog Rows.blockZeroRow.origin Rows.blockZeroRow.targs) = true := by kernel_rfl
theorem over : Rows.blockZeroRow.holds Tryd.pinned (OpenSpec.ofChange Rows.blockZeroSpec) :=
 OpenClaim.holds_of_wide 13 Tryd.f13 rfl rfl rfl rfl rfl rfl rfl ⟨rfl, rfl, rfl, rfl, rfl⟩ rfl rfl rfl rfl rfl named_ Tryd.func13 closed
  (of_decide_eq_true inst_) (by unfold Func.isWrapper; first | (rw [if_pos (by decide +kernel)]; kernel_rfl) | (rw [if_neg (by decide +kernel)]; exact ⟨rfl, rfl⟩))
  (fun os started H enc _ => lifted os started H enc)
theorem proved : Rows.BlockZeroSaid := over
theorem card : Rows.BlockZeroCardSaid :=
  Claim7.holds_tied_plain_at .later [] [.data, .pinned] true (true, "455cee183e349aad79324c72cd2e744dd386c2eec51fc6e817c944f5d4339eb4") false
    over (fun _ h => by cases h) (by kernel_rfl) (fun _ h => by cases h) blockZero_row_tie rfl ⟨rfl, rfl⟩ (by kernel_rfl) rfl
    (fun f fn hf hfn => by
      obtain rfl : f = 13 := Option.some.inj (hf.symm.trans named_)
      obtain rfl : fn = Tryd.f13 := (Option.some.inj (Tryd.func13.symm.trans hfn)).symm
      exact ⟨by kernel_rfl, fun j t ht => DoorB.noStand (by kernel_rfl) j t ht⟩)
    (by kernel_rfl)
end Go.Proofs.YtleagoeimkcekaaDoor.blockZero
namespace Go.Proofs.YtleagoeimkcekaaDoor
/-- The row, under a short name, for the claim. -/
theorem blockZero_holds : Rows.BlockZeroCardSaid := blockZero.card
end Go.Proofs.YtleagoeimkcekaaDoor
