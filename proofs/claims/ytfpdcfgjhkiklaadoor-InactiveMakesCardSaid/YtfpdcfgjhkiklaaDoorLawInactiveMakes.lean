/- The law InactiveMakes: for every input it answers true, and its input reads behind the call as it read ahead of it. -/
import Derived.Test.YtfpdcfgjhkiklaaDoorRows
import Derived.Test.YtfpdcfgjhkiklaaDoorInactR
import Derived.Test.YtfpdcfgjhkiklaaDoorDoorT
import Derived.WalkKit
import Derived.ProofKit
import Derived.OpenShut
import Derived.ShutString
import Derived.ChangeOld
import Derived.Below
import Derived.SizedLaws
import Derived.JoinedOf
import Derived.Test.YtfpdcfgjhkiklaaDoorCards
import Derived.Test.YtfpdcfgjhkiklaaDoorTie
import Derived.SevenTiedAt
import Derived.Handed
namespace Go.Proofs.YtfpdcfgjhkiklaaDoor.inactiveMakes
open Go.ChangeShapes Go.WideShapes Go.ChangeAt Go.RowKit Go.PM
open Go.ChangeMaps (open_string shut_string)
open Go.Proofs.YtfpdcfgjhkiklaaDoor
set_option linter.unusedVariables false
theorem k0 : (Rows.inactiveMakesRow.wf (OpenSpec.ofChange Rows.inactiveMakesSpec)) = true := by kernel_rfl
theorem k3 : (Tryd.f3.params.all (Tryd.prog.readableRec ·)) = true := by kernel_rfl
theorem k4 : (namedTie Tryd.prog Rows.inactiveMakesRow.named Rows.inactiveMakesSpec.vars) = true := by kernel_rfl
theorem k5 : ((Rows.inactiveMakesRow.stops == [])) = true := by kernel_rfl
theorem k6 : ((Tryd.prog.stops == [])) = true := by kernel_rfl
theorem k7 : ((Rows.inactiveMakesRow.knobs == [])) = true := by kernel_rfl
theorem k8 : ((Tryd.prog.stopKnobs == [])) = true := by kernel_rfl
theorem k9 : ((Rows.inactiveMakesRow.inPlace == Tryd.prog.inPlace 3)) = true := by kernel_rfl
theorem k10 : ((Rows.inactiveMakesRow.unfollowed == Tryd.prog.unfollowed 3)) = true := by kernel_rfl
theorem k11 : ((Rows.inactiveMakesRow.recurses == Tryd.prog.recurses 3)) = true := by kernel_rfl
theorem k12 : ((Rows.inactiveMakesRow.named == Tryd.prog.varsNamed 3)) = true := by kernel_rfl
theorem k13 : ((Rows.inactiveMakesRow.maps == (Tryd.f3.params.toList ++ Rows.inactiveMakesSpec.plain.varTypes Tryd.prog).any (Tryd.prog.mapsRec ·))) = true := by kernel_rfl
theorem k14 : ((Rows.inactiveMakesRow.ifaces == (Tryd.f3.params.toList ++ Rows.inactiveMakesSpec.plain.varTypes Tryd.prog).any (Tryd.prog.ifacesRec ·))) = true := by kernel_rfl
theorem k15 : ((Rows.inactiveMakesRow.mapsOut == Tryd.prog.mapsAmong Tryd.f3.resultTypes.toList)) = true := by kernel_rfl
theorem k16 : ((Rows.inactiveMakesRow.loops == (Tryd.f3.params.toList ++ Rows.inactiveMakesSpec.plain.varTypes Tryd.prog).any (Tryd.prog.loopsFrom ·))) = true := by kernel_rfl
theorem k17 : ((Rows.inactiveMakesRow.wideKeys == (Tryd.f3.params.toList ++ Rows.inactiveMakesSpec.plain.varTypes Tryd.prog ++ Tryd.f3.resultTypes.toList).any (Tryd.prog.wideKeysFrom ·))) = true := by kernel_rfl
theorem k18 : (Rows.inactiveMakesSpec.vars.all (Tryd.prog.varReadable ·)) = true := by kernel_rfl
theorem k19 : (Tryd.f3.resultTypes.all (fun t => Tryd.prog.readableRec t && decide (t < Tryd.prog.types.size))) = true := by kernel_rfl
theorem k20 : ((Rows.inactiveMakesRow.ifacesOut == Tryd.f3.resultTypes.toList.any (Tryd.prog.ifacesRec ·))) = true := by kernel_rfl
theorem k21 : ((Rows.inactiveMakesRow.loopsOut == Tryd.f3.resultTypes.toList.any (Tryd.prog.loopsFrom ·))) = true := by kernel_rfl
theorem k22 : ((Rows.inactiveMakesRow.plainKeys == Tryd.prog.plainKeys)) = true := by kernel_rfl
theorem k23 : (Rows.inactiveMakesRow.shortTexts.isNone) = true := by kernel_rfl
theorem k26 : ((Rows.inactiveMakesRow.lifted == Tryd.prog.liftsFinal)) = true := by kernel_rfl
theorem k27 : ((Tryd.prog.make == some Rows.inactiveMakesRow.make)) = true := by kernel_rfl
theorem k28 : ((Rows.inactiveMakesRow.kinds == (if Rows.inactiveMakesRow.domain.isEmpty then [] else Tryd.f3.params.toList.map fun t => match Tryd.prog.underlying t with | some (.int k) => some k | _ => none))) = true := by kernel_rfl
theorem k29 : ((Rows.inactiveMakesRow.pinned == Rows.inactiveMakesRow.pinnedBy)) = true := by kernel_rfl
theorem k30 : ((Rows.inactiveMakesRow.veiled == (Tryd.f3.params.toList ++ Rows.inactiveMakesSpec.plain.varTypes Tryd.prog ++ Tryd.f3.resultTypes.toList).any (Tryd.prog.veiledRec ·))) = true := by kernel_rfl
theorem k31 : (Rows.inactiveMakesRow.veiledFits Tryd.prog Tryd.f3.params.toList (Tryd.f3.params.toList ++ Rows.inactiveMakesSpec.plain.varTypes Tryd.prog ++ Tryd.f3.resultTypes.toList)) = true := by kernel_rfl
theorem andT {a b : Bool} (ha : a = true) (hb : b = true) : (a && b) = true := by rw [ha, hb]; rfl
theorem laidOut_ : laidOutB Tryd.prog = true := by kernel_rfl
theorem mapsRowed_ : mapsRowed Tryd.prog = true := by kernel_rfl
theorem stopsHeard_ : Tryd.prog.stopsHeard = true := by kernel_rfl
theorem mayEnter_ : Tryd.prog.mayEnter = true := by kernel_rfl
set_option maxRecDepth 100000 in
theorem closed : joinedFacts Tryd.prog 3 Tryd.f3 Rows.inactiveMakesSpec Rows.inactiveMakesRow = true := by
 unfold joinedFacts
 exact (andT (andT (andT (andT (andT (andT (andT (andT (andT (andT (andT (andT (andT (andT (andT (andT (andT (andT (andT (andT (andT (andT (andT (andT (andT (andT (andT (andT (andT (andT (andT (k0) laidOut_) mapsRowed_) k3) k4) k5) k6) k7) k8) k9) k10) k11) k12) k13) k14) k15) k16) k17) k18) k19) k20) k21) k22) k23) stopsHeard_) mayEnter_) k26) k27) k28) k29) k30) k31)
theorem own : ownKnob Tryd.prog.godebug = none := by kernel_rfl
set_option maxHeartbeats 8000000 in
set_option maxRecDepth 100000 in
theorem lifted (os : Os) (started : os.Started) (H : Type) (enc : TypeId × Value → H) :
  ReturnsInHanded {} Tryd.checked os 3 .any (fun w args => (Rows.inactiveMakesSpec.pre enc Tryd.prog Tryd.f3 [] false w args ∧ laidMetH Tryd.prog Rows.inactiveMakesRow.laid w) ∧ sizedMet enc Tryd.prog Tryd.f3 (OpenSpec.ofChange Rows.inactiveMakesSpec) false w args) (Rows.inactiveMakesSpec.post enc Tryd.prog Tryd.f3 false true false false) := by
 refine returnsInHanded_of_change_and (C := Tryd.checked) (X := fun w _ => laidMetH Tryd.prog Rows.inactiveMakesRow.laid w) (fun _ _ _ hh h => h.of_heap hh) own started (by kernel_rfl) Tryd.func3
  (ChangeSpec.witness_at (enc := enc) (C := Tryd.checked) (os := os) (X := fun w _ => laidMetH Tryd.prog Rows.inactiveMakesRow.laid w) false (Door.laidWorld os) #[.agg #[.int .i64 0, .slice none 0 0]] 8 rfl (by kernel_rfl) (by kernel_rfl) (by kernel_rfl) (by kernel_rfl) (by kernel_rfl) (Door.laidWorld_met os _)) ?_
 intro W base args ds gs before hval0 hW hcnd hsz0 hL _
 have hval : ∀ (j : Nat) t v, Tryd.f3.params[j]? = some t → args[j]? = some v → Value.okWide Tryd.prog W .any base t v := hval0
 have hW' := hW
 obtain ⟨p, q, hA0, hV, rfl, hfz, hnd⟩ := hW
 have hA : DataW.TrodAll enc Tryd.prog W 0 (fun _ => true) true Tryd.f3.params.toList args.toList ds p := hA0
 rw [Tryd.params3] at hA hval
 obtain ⟨v0, vs0, d0, ds0, p0, q0, hargs, rfl, rfl, h0, r0⟩ := trodAll_cons hA
 obtain ⟨rfl, rfl, rfl⟩ := trodAll_nil r0
 obtain rfl : args = #[v0] := by cases args; simp_all
 obtain ⟨rfl, rfl⟩ := trodVars_none hV
 have k0_ := h0
 have lt0 : ∀ x ∈ p0, x.block < W.heap.size := by obtain ⟨m, hm⟩ := k0_; exact DataW.trod_lt m _ _ _ hm
 obtain ⟨x0, E0, Q0⟩ := opens_arg (s := (.pair (.int .i64) (.sl (.pair (.int .i64) (.sl (.int .u64)))))) (opens_sh 20 24 (.pair (.int .i64) (.sl (.pair (.int .i64) (.sl (.int .u64))))) (by kernel_rfl) (by kernel_rfl) (by kernel_rfl)) h0
 obtain ⟨cs0, rfl, hcs0⟩ := okWide_struct Tryd.underlying24 (hval 0 24 v0 rfl rfl)
 have R0 := argV_row (s := (.pair (.int .i64) (.sl (.pair (.int .i64) (.sl (.int .u64)))))) (x := x0) (ys := cs0) E0
 clear hA0 hval0 hsz0
 have hx := (RVs_cons R0 RVs_nil)
 refine (law_end (G := gTab) (lawMakes_fact (x0.1) (x0.2) (by exact okM_iff.2 (fun e he => Bit.okW_iff.2 (fun w hw => wf_u64 ((Q0.2.2 e he).2.2 w hw))))) (Door.glob_of_laid hL) hx).mono fun e W' ⟨he, bel⟩ => ?_
 subst he
 exact ⟨_, rfl, _, _, _, [], _, [], hW', trodAll_mk1 (shut_bool Tryd.underlying4 _), (trodAll_cons_mk (Below.trod laidOut_ (by kernel_rfl) (of_decide_eq_true (by kernel_rfl)) k0_ bel lt0) trodAll_mk0), rfl, bel.frame _, fun h => by cases h⟩
theorem named_ : Tryd.prog.funcNamed Rows.inactiveMakesRow.func = some 3 := by kernel_rfl
theorem inst_ : decide (Tryd.f3.isInstance Tryd.prog Rows.inactiveMakesRow.origin Rows.inactiveMakesRow.targs) = true := by kernel_rfl
theorem over : Rows.inactiveMakesRow.holds Tryd.pinned (OpenSpec.ofChange Rows.inactiveMakesSpec) :=
 OpenClaim.holds_of_wide 3 Tryd.f3 rfl rfl rfl rfl rfl rfl rfl ⟨rfl, rfl, rfl, rfl, rfl⟩ rfl rfl rfl rfl rfl named_ Tryd.func3 closed
  (of_decide_eq_true inst_) (by unfold Func.isWrapper; first | (rw [if_pos (by decide +kernel)]; kernel_rfl) | (rw [if_neg (by decide +kernel)]; exact ⟨rfl, rfl⟩))
  (fun os started H enc _ => lifted os started H enc)
theorem proved : Rows.InactiveMakesSaid := over
theorem card : Rows.InactiveMakesCardSaid :=
  Claim7.holds_tied_plain_at .later [] [.data] true (true, "9aeea4a5b5a71d88897ac8d4ee42dbebf3d152c73e60cb2a290a770d77ad251f") false
    over (fun _ h => by cases h) (by kernel_rfl) (fun _ h => by cases h) inactiveMakes_row_tie rfl ⟨rfl, rfl⟩ (by kernel_rfl) rfl
    (fun f fn hf hfn => by
      obtain rfl : f = 3 := Option.some.inj (hf.symm.trans named_)
      obtain rfl : fn = Tryd.f3 := (Option.some.inj (Tryd.func3.symm.trans hfn)).symm
      exact ⟨by kernel_rfl, fun j t ht => Door.noStand (by kernel_rfl) j t ht⟩)
    (by kernel_rfl)
end Go.Proofs.YtfpdcfgjhkiklaaDoor.inactiveMakes
namespace Go.Proofs.YtfpdcfgjhkiklaaDoor
/-- The row, under a short name, for the claim. -/
theorem inactiveMakes_holds : Rows.InactiveMakesCardSaid := inactiveMakes.card
end Go.Proofs.YtfpdcfgjhkiklaaDoor
