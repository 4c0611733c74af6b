/- The law EncodeMakes: for every input it answers true, and its input reads behind the call as it read ahead of it. -/
import Derived.Test.YtfpdcfgjhkiklaaDoorRows
import Derived.Test.YtfpdcfgjhkiklaaDoorEnc
import Derived.Test.YtfpdcfgjhkiklaaDoorDoorT
import Derived.WalkKit
import Derived.ProofKit
import Derived.OpenShut
import Derived.ShutString
import Derived.ChangeOld
import Derived.Below
import Derived.SizedLaws
import Derived.JoinedOf
import Derived.Test.YtfpdcfgjhkiklaaDoorCards
import Derived.Test.YtfpdcfgjhkiklaaDoorTie
import Derived.SevenTiedAt
import Derived.Handed
namespace Go.Proofs.YtfpdcfgjhkiklaaDoor.encodeMakes
open Go.ChangeShapes Go.WideShapes Go.ChangeAt Go.RowKit Go.PM
open Go.ChangeMaps (open_string shut_string)
open Go.Proofs.YtfpdcfgjhkiklaaDoor
set_option linter.unusedVariables false
theorem k0 : (Rows.encodeMakesRow.wf (OpenSpec.ofChange Rows.encodeMakesSpec)) = true := by kernel_rfl
theorem k3 : (Tryd.f10.params.all (Tryd.prog.readableRec ·)) = true := by kernel_rfl
theorem k4 : (namedTie Tryd.prog Rows.encodeMakesRow.named Rows.encodeMakesSpec.vars) = true := by kernel_rfl
theorem k5 : ((Rows.encodeMakesRow.stops == [])) = true := by kernel_rfl
theorem k6 : ((Tryd.prog.stops == [])) = true := by kernel_rfl
theorem k7 : ((Rows.encodeMakesRow.knobs == [])) = true := by kernel_rfl
theorem k8 : ((Tryd.prog.stopKnobs == [])) = true := by kernel_rfl
theorem k9 : ((Rows.encodeMakesRow.inPlace == Tryd.prog.inPlace 10)) = true := by kernel_rfl
theorem k10 : ((Rows.encodeMakesRow.unfollowed == Tryd.prog.unfollowed 10)) = true := by kernel_rfl
theorem k11 : ((Rows.encodeMakesRow.recurses == Tryd.prog.recurses 10)) = true := by kernel_rfl
theorem k12 : ((Rows.encodeMakesRow.named == Tryd.prog.varsNamed 10)) = true := by kernel_rfl
theorem k13 : ((Rows.encodeMakesRow.maps == (Tryd.f10.params.toList ++ Rows.encodeMakesSpec.plain.varTypes Tryd.prog).any (Tryd.prog.mapsRec ·))) = true := by kernel_rfl
theorem k14 : ((Rows.encodeMakesRow.ifaces == (Tryd.f10.params.toList ++ Rows.encodeMakesSpec.plain.varTypes Tryd.prog).any (Tryd.prog.ifacesRec ·))) = true := by kernel_rfl
theorem k15 : ((Rows.encodeMakesRow.mapsOut == Tryd.prog.mapsAmong Tryd.f10.resultTypes.toList)) = true := by kernel_rfl
theorem k16 : ((Rows.encodeMakesRow.loops == (Tryd.f10.params.toList ++ Rows.encodeMakesSpec.plain.varTypes Tryd.prog).any (Tryd.prog.loopsFrom ·))) = true := by kernel_rfl
theorem k17 : ((Rows.encodeMakesRow.wideKeys == (Tryd.f10.params.toList ++ Rows.encodeMakesSpec.plain.varTypes Tryd.prog ++ Tryd.f10.resultTypes.toList).any (Tryd.prog.wideKeysFrom ·))) = true := by kernel_rfl
theorem k18 : (Rows.encodeMakesSpec.vars.all (Tryd.prog.varReadable ·)) = true := by kernel_rfl
theorem k19 : (Tryd.f10.resultTypes.all (fun t => Tryd.prog.readableRec t && decide (t < Tryd.prog.types.size))) = true := by kernel_rfl
theorem k20 : ((Rows.encodeMakesRow.ifacesOut == Tryd.f10.resultTypes.toList.any (Tryd.prog.ifacesRec ·))) = true := by kernel_rfl
theorem k21 : ((Rows.encodeMakesRow.loopsOut == Tryd.f10.resultTypes.toList.any (Tryd.prog.loopsFrom ·))) = true := by kernel_rfl
theorem k22 : ((Rows.encodeMakesRow.plainKeys == Tryd.prog.plainKeys)) = true := by kernel_rfl
theorem k23 : (Rows.encodeMakesRow.shortTexts.isNone) = true := by kernel_rfl
theorem k26 : ((Rows.encodeMakesRow.lifted == Tryd.prog.liftsFinal)) = true := by kernel_rfl
theorem k27 : ((Tryd.prog.make == some Rows.encodeMakesRow.make)) = true := by kernel_rfl
theorem k28 : ((Rows.encodeMakesRow.kinds == (if Rows.encodeMakesRow.domain.isEmpty then [] else Tryd.f10.params.toList.map fun t => match Tryd.prog.underlying t with | some (.int k) => some k | _ => none))) = true := by kernel_rfl
theorem k29 : ((Rows.encodeMakesRow.pinned == Rows.encodeMakesRow.pinnedBy)) = true := by kernel_rfl
theorem k30 : ((Rows.encodeMakesRow.veiled == (Tryd.f10.params.toList ++ Rows.encodeMakesSpec.plain.varTypes Tryd.prog ++ Tryd.f10.resultTypes.toList).any (Tryd.prog.veiledRec ·))) = true := by kernel_rfl
theorem k31 : (Rows.encodeMakesRow.veiledFits Tryd.prog Tryd.f10.params.toList (Tryd.f10.params.toList ++ Rows.encodeMakesSpec.plain.varTypes Tryd.prog ++ Tryd.f10.resultTypes.toList)) = true := by kernel_rfl
theorem andT {a b : Bool} (ha : a = true) (hb : b = true) : (a && b) = true := by rw [ha, hb]; rfl
theorem laidOut_ : laidOutB Tryd.prog = true := by kernel_rfl
theorem mapsRowed_ : mapsRowed Tryd.prog = true := by kernel_rfl
theorem stopsHeard_ : Tryd.prog.stopsHeard = true := by kernel_rfl
theorem mayEnter_ : Tryd.prog.mayEnter = true := by kernel_rfl
set_option maxRecDepth 100000 in
theorem closed : joinedFacts Tryd.prog 10 Tryd.f10 Rows.encodeMakesSpec Rows.encodeMakesRow = true := by
 unfold joinedFacts
 exact (andT (andT (andT (andT (andT (andT (andT (andT (andT (andT (andT (andT (andT (andT (andT (andT (andT (andT (andT (andT (andT (andT (andT (andT (andT (andT (andT (andT (andT (andT (andT (k0) laidOut_) mapsRowed_) k3) k4) k5) k6) k7) k8) k9) k10) k11) k12) k13) k14) k15) k16) k17) k18) k19) k20) k21) k22) k23) stopsHeard_) mayEnter_) k26) k27) k28) k29) k30) k31)
theorem own : ownKnob Tryd.prog.godebug = none := by kernel_rfl
set_option maxHeartbeats 8000000 in
set_option maxRecDepth 100000 in
theorem lifted (os : Os) (started : os.Started) (H : Type) (enc : TypeId × Value → H) :
  ReturnsInHanded {} Tryd.checked os 10 .any (fun w args => (Rows.encodeMakesSpec.pre enc Tryd.prog Tryd.f10 [] false w args ∧ laidMetH Tryd.prog Rows.encodeMakesRow.laid w) ∧ sizedMet enc Tryd.prog Tryd.f10 (OpenSpec.ofChange Rows.encodeMakesSpec) false w args) (Rows.encodeMakesSpec.post enc Tryd.prog Tryd.f10 false true false false) := by
 refine returnsInHanded_of_change_and (C := Tryd.checked) (X := fun w _ => laidMetH Tryd.prog Rows.encodeMakesRow.laid w) (fun _ _ _ hh h => h.of_heap hh) own started (by kernel_rfl) Tryd.func10
  (ChangeSpec.witness_at (enc := enc) (C := Tryd.checked) (os := os) (X := fun w _ => laidMetH Tryd.prog Rows.encodeMakesRow.laid w) false (Door.laidWorld os) #[.slice none 0 0, .int .u64 0, .slice none 0 0] 8 rfl (by kernel_rfl) (by kernel_rfl) (by kernel_rfl) (by kernel_rfl) (by kernel_rfl) (Door.laidWorld_met os _)) ?_
 intro W base args ds gs before hval0 hW hcnd hsz0 hL _
 have hval : ∀ (j : Nat) t v, Tryd.f10.params[j]? = some t → args[j]? = some v → Value.okWide Tryd.prog W .any base t v := hval0
 have hW' := hW
 obtain ⟨p, q, hA0, hV, rfl, hfz, hnd⟩ := hW
 have hA : DataW.TrodAll enc Tryd.prog W 0 (fun _ => true) true Tryd.f10.params.toList args.toList ds p := hA0
 rw [Tryd.params10] at hA hval
 obtain ⟨v0, vs0, d0, ds0, p0, q0, hargs, rfl, rfl, h0, r0⟩ := trodAll_cons hA
 obtain ⟨v1, vs1, d1, ds1, p1, q1, rfl, rfl, rfl, h1, r1⟩ := trodAll_cons r0
 obtain ⟨v2, vs2, d2, ds2, p2, q2, rfl, rfl, rfl, h2, r2⟩ := trodAll_cons r1
 obtain ⟨rfl, rfl, rfl⟩ := trodAll_nil r2
 obtain rfl : args = #[v0, v1, v2] := by cases args; simp_all
 obtain ⟨rfl, rfl⟩ := trodVars_none hV
 have k0_ := h0
 have lt0 : ∀ x ∈ p0, x.block < W.heap.size := by obtain ⟨m, hm⟩ := k0_; exact DataW.trod_lt m _ _ _ hm
 obtain ⟨x0, E0, Q0⟩ := opens_arg (s := (.sl .str)) (opens_sh 20 48 (.sl .str) (by kernel_rfl) (by kernel_rfl) (by kernel_rfl)) h0
 obtain ⟨a0, l0, c0, rfl⟩ := okWide_slice Tryd.underlying48 (hval 0 48 v0 rfl rfl)
 have R0 := argV_one (s := (.sl .str)) (x := x0) (y := .slice a0 l0 c0) rfl E0
 have k1_ := h1
 have lt1 : ∀ x ∈ p1, x.block < W.heap.size := by obtain ⟨m, hm⟩ := k1_; exact DataW.trod_lt m _ _ _ hm
 obtain ⟨x1, rfl, rfl, rfl, Q1⟩ := open_int Tryd.underlying79 (hval 1 79 v1 rfl rfl) h1
 have R1 : RV (allB W) PM.nil W (.s (.int .u64 x1)) (.int .u64 x1) := by simp only [RV]
 have k2_ := h2
 have lt2 : ∀ x ∈ p2, x.block < W.heap.size := by obtain ⟨m, hm⟩ := k2_; exact DataW.trod_lt m _ _ _ hm
 obtain ⟨x2, E2, Q2⟩ := opens_arg (s := (.sl (.int .u64))) (opens_sh 20 42 (.sl (.int .u64)) (by kernel_rfl) (by kernel_rfl) (by kernel_rfl)) h2
 obtain ⟨a2, l2, c2, rfl⟩ := okWide_slice Tryd.underlying42 (hval 2 42 v2 rfl rfl)
 have R2 := argV_one (s := (.sl (.int .u64))) (x := x2) (y := .slice a2 l2 c2) rfl E2
 clear hA0 hval0 hsz0
 have hx := (RVs_cons R0 (RVs_cons R1 (RVs_cons R2 RVs_nil)))
 refine (law_end (G := gTab) (lawEMakes_fact (x0) (x1) (x2) (by have b := wf_u64 Q1; have a : Bit.okW x2 = true := Bit.okW_iff.2 (fun w hw => wf_u64 (Q2.2 w hw)); rw [a]; simp; omega)) (Door.glob_of_laid hL) hx).mono fun e W' ⟨he, bel⟩ => ?_
 subst he
 exact ⟨_, rfl, _, _, _, [], _, [], hW', trodAll_mk1 (shut_bool Tryd.underlying4 _), (trodAll_cons_mk (Below.trod laidOut_ (by kernel_rfl) (of_decide_eq_true (by kernel_rfl)) k0_ bel lt0) (trodAll_cons_mk (Below.trod laidOut_ (by kernel_rfl) (of_decide_eq_true (by kernel_rfl)) k1_ bel lt1) (trodAll_cons_mk (Below.trod laidOut_ (by kernel_rfl) (of_decide_eq_true (by kernel_rfl)) k2_ bel lt2) trodAll_mk0))), rfl, bel.frame _, fun h => by cases h⟩
theorem named_ : Tryd.prog.funcNamed Rows.encodeMakesRow.func = some 10 := by kernel_rfl
theorem inst_ : decide (Tryd.f10.isInstance Tryd.prog Rows.encodeMakesRow.origin Rows.encodeMakesRow.targs) = true := by kernel_rfl
theorem over : Rows.encodeMakesRow.holds Tryd.pinned (OpenSpec.ofChange Rows.encodeMakesSpec) :=
 OpenClaim.holds_of_wide 10 Tryd.f10 rfl rfl rfl rfl rfl rfl rfl ⟨rfl, rfl, rfl, rfl, rfl⟩ rfl rfl rfl rfl rfl named_ Tryd.func10 closed
  (of_decide_eq_true inst_) (by unfold Func.isWrapper; first | (rw [if_pos (by decide +kernel)]; kernel_rfl) | (rw [if_neg (by decide +kernel)]; exact ⟨rfl, rfl⟩))
  (fun os started H enc _ => lifted os started H enc)
theorem proved : Rows.EncodeMakesSaid := over
theorem card : Rows.EncodeMakesCardSaid :=
  Claim7.holds_tied_plain_at .later [] [.data] true (true, "9aeea4a5b5a71d88897ac8d4ee42dbebf3d152c73e60cb2a290a770d77ad251f") false
    over (fun _ h => by cases h) (by kernel_rfl) (fun _ h => by cases h) encodeMakes_row_tie rfl ⟨rfl, rfl⟩ (by kernel_rfl) rfl
    (fun f fn hf hfn => by
      obtain rfl : f = 10 := Option.some.inj (hf.symm.trans named_)
      obtain rfl : fn = Tryd.f10 := (Option.some.inj (Tryd.func10.symm.trans hfn)).symm
      exact ⟨by kernel_rfl, fun j t ht => Door.noStand (by kernel_rfl) j t ht⟩)
    (by kernel_rfl)
end Go.Proofs.YtfpdcfgjhkiklaaDoor.encodeMakes
namespace Go.Proofs.YtfpdcfgjhkiklaaDoor
/-- The row, under a short name, for the claim. -/
theorem encodeMakes_holds : Rows.EncodeMakesCardSaid := encodeMakes.card
end Go.Proofs.YtfpdcfgjhkiklaaDoor
