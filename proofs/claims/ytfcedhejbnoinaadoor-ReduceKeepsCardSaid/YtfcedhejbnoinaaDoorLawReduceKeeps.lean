/- The law ReduceKeeps: for every input it answers true, and its input reads behind the call as it read ahead of it. -/
import Derived.Test.YtfcedhejbnoinaaDoorRows
import Derived.Test.YtfcedhejbnoinaaDoorPKx8
import Derived.Test.YtfcedhejbnoinaaDoorPureReduceKeeps
import Derived.Test.YtfcedhejbnoinaaDoorPKxO
import Derived.Test.YtfcedhejbnoinaaDoorVOpens
import Derived.Test.YtfcedhejbnoinaaDoorVFacts
import Derived.WalkKit
import Derived.ProofKit
import Derived.OpenShut
import Derived.ShutString
import Derived.ChangeOld
import Derived.Below
import Derived.SizedLaws
import Derived.Test.YtfcedhejbnoinaaDoorVDoor
import Derived.Test.YtfcedhejbnoinaaDoorCards
import Derived.Test.YtfcedhejbnoinaaDoorTie
import Derived.SevenTiedAt
import Derived.Handed
namespace Go.Proofs.YtfcedhejbnoinaaDoor.reduceKeeps
open Go.ChangeShapes Go.WideShapes Go.ChangeAt Go.RowKit
open Go.ChangeMaps (open_string shut_string)
open Go.Proofs.YtfcedhejbnoinaaDoor.PK Go.Proofs.YtfcedhejbnoinaaDoorW.PrintWords Go.Proofs.YtfcedhejbnoinaaDoorW.PrintLast Go.Proofs.YtfcedhejbnoinaaDoor
set_option linter.unusedVariables false
theorem own : ownKnob Tryd.prog.godebug = none := by kernel_rfl
theorem laidOut : laidOutB Tryd.prog = true := Facts.laidOut
set_option maxHeartbeats 8000000 in
set_option maxRecDepth 100000 in
theorem lifted (os : Os) (started : os.Started) (H : Type) (enc : TypeId × Value → H) :
  ReturnsInHanded {} Tryd.checked os 9 .any (fun w args => (Rows.reduceKeepsSpec.pre enc Tryd.prog Tryd.f9 [] false w args ∧ laidMetH Tryd.prog Rows.reduceKeepsRow.laid w) ∧ sizedMet enc Tryd.prog Tryd.f9 (OpenSpec.ofChange Rows.reduceKeepsSpec) false w args) (Rows.reduceKeepsSpec.post enc Tryd.prog Tryd.f9 false true false false) := by
 refine returnsInHanded_of_change_and (C := Tryd.checked) (X := fun w _ => laidMetH Tryd.prog Rows.reduceKeepsRow.laid w) (fun _ _ _ hh h => h.of_heap hh) own started (by kernel_rfl) Tryd.func9
  (ChangeSpec.witness_at (enc := enc) (C := Tryd.checked) (os := os) (X := fun w _ => laidMetH Tryd.prog Rows.reduceKeepsRow.laid w) false (Door.laidWorld os) #[.agg #[.int .i64 0, .slice none 0 0], .agg #[.int .i64 0, .slice none 0 0]] 8 rfl (by kernel_rfl) (by kernel_rfl) (by kernel_rfl) (by kernel_rfl) (by kernel_rfl) (Door.laidWorld_met os _)) ?_
 intro W base args ds gs before hval0 hW hcnd hsz0 hL _
 have hval : ∀ (j : Nat) t v, Tryd.f9.params[j]? = some t → args[j]? = some v → Value.okWide Tryd.prog W .any base t v := hval0
 have hW' := hW
 obtain ⟨p, q, hA0, hV, rfl, hfz, hnd⟩ := hW
 have hA : DataW.TrodAll enc Tryd.prog W 0 (fun _ => true) true Tryd.f9.params.toList args.toList ds p := hA0
 rw [Tryd.params9] at hA hval
 obtain ⟨v0, vs0, d0, ds0, p0, q0, hargs, rfl, rfl, h0, r0⟩ := trodAll_cons hA
 obtain ⟨v1, vs1, d1, ds1, p1, q1, rfl, rfl, rfl, h1, r1⟩ := trodAll_cons r0
 obtain ⟨rfl, rfl, rfl⟩ := trodAll_nil r1
 obtain rfl : args = #[v0, v1] := by cases args; simp_all
 obtain ⟨rfl, rfl⟩ := trodVars_none hV
 have k0 := h0
 have lt0 : ∀ x ∈ p0, x.block < W.heap.size := by obtain ⟨m, hm⟩ := k0; exact DataW.trod_lt m _ _ _ hm
 obtain ⟨x0, K0, Q0⟩ := Opens.Opens.arg (P := Tryd.prog) (W := W) opens55 h0
 obtain ⟨cs0, rfl, hcs0⟩ := okWide_struct Tryd.underlying55 (hval 0 55 v0 rfl rfl)
 obtain ⟨A0_1, c0_1, e0, hl0_1, hr0_1⟩ := k55_open K0
 obtain rfl : cs0 = #[.int .i64 x0.f0, .slice A0_1 x0.f1.length c0_1] := by rw [← Array.toList_inj]; simpa [Value.cells] using e0
 have k1 := h1
 have lt1 : ∀ x ∈ p1, x.block < W.heap.size := by obtain ⟨m, hm⟩ := k1; exact DataW.trod_lt m _ _ _ hm
 obtain ⟨x1, K1, Q1⟩ := Opens.Opens.arg (P := Tryd.prog) (W := W) opens25 h1
 obtain ⟨cs1, rfl, hcs1⟩ := okWide_struct Tryd.underlying25 (hval 1 25 v1 rfl rfl)
 obtain ⟨A1_1, c1_1, e1, hl1_1, hr1_1⟩ := k25_open K1
 obtain rfl : cs1 = #[.int .i64 x1.f0, .slice A1_1 x1.f1.length c1_1] := by rw [← Array.toList_inj]; simpa [Value.cells] using e1
 clear hA0 hval0 hsz0
 obtain ⟨k, hk⟩ := Pure.ReduceKeeps x0 Q0 x1 Q1
 refine (downpourlaw04_ReduceKeeps.calls k x0.f0 (fun k_ => k_ < W.heap.size) A0_1 c0_1 x0.f1 x1.f0 (fun k_ => k_ < W.heap.size) A1_1 c1_1 x1.f1 true W (Door.tab_of_laid hL) (Kd.V_mk hl0_1 (Kd.F_below (Kd.C_F k25_heap hr0_1) (Below.refl _ _))) (Kd.V_mk hl1_1 (Kd.F_below (Kd.C_F (Kd.heap_int .u64) hr1_1) (Below.refl _ _))) hk).mono fun e W' ⟨he, bel⟩ => ?_
 subst he
 exact ⟨_, rfl, _, _, _, [], _, [], hW', trodAll_mk1 (shut_bool Tryd.underlying4 _), (trodAll_cons_mk (Below.trod laidOut (by kernel_rfl) (of_decide_eq_true (by kernel_rfl)) k0 bel lt0) (trodAll_cons_mk (Below.trod laidOut (by kernel_rfl) (of_decide_eq_true (by kernel_rfl)) k1 bel lt1) trodAll_mk0)), rfl, bel.frame _, fun h => by cases h⟩
theorem k0 : (Rows.reduceKeepsRow.wf (OpenSpec.ofChange Rows.reduceKeepsSpec)) = true := by kernel_rfl
theorem k3 : (Tryd.f9.params.all (Tryd.prog.readableRec ·)) = true := by kernel_rfl
theorem k4 : (namedTie Tryd.prog Rows.reduceKeepsRow.named Rows.reduceKeepsSpec.vars) = true := by kernel_rfl
theorem k5 : ((Rows.reduceKeepsRow.stops == [])) = true := by kernel_rfl
theorem k6 : ((Tryd.prog.stops == [])) = true := by kernel_rfl
theorem k7 : ((Rows.reduceKeepsRow.knobs == [])) = true := by kernel_rfl
theorem k8 : ((Tryd.prog.stopKnobs == [])) = true := by kernel_rfl
theorem k9 : ((Rows.reduceKeepsRow.inPlace == Tryd.prog.inPlace 9)) = true := by kernel_rfl
theorem k10 : ((Rows.reduceKeepsRow.unfollowed == Tryd.prog.unfollowed 9)) = true := by kernel_rfl
theorem k11 : ((Rows.reduceKeepsRow.recurses == Tryd.prog.recurses 9)) = true := by kernel_rfl
theorem k12 : ((Rows.reduceKeepsRow.named == Tryd.prog.varsNamed 9)) = true := by kernel_rfl
theorem k13 : ((Rows.reduceKeepsRow.maps == (Tryd.f9.params.toList ++ Rows.reduceKeepsSpec.plain.varTypes Tryd.prog).any (Tryd.prog.mapsRec ·))) = true := by kernel_rfl
theorem k14 : ((Rows.reduceKeepsRow.ifaces == (Tryd.f9.params.toList ++ Rows.reduceKeepsSpec.plain.varTypes Tryd.prog).any (Tryd.prog.ifacesRec ·))) = true := by kernel_rfl
theorem k15 : ((Rows.reduceKeepsRow.mapsOut == Tryd.prog.mapsAmong Tryd.f9.resultTypes.toList)) = true := by kernel_rfl
theorem k16 : ((Rows.reduceKeepsRow.loops == (Tryd.f9.params.toList ++ Rows.reduceKeepsSpec.plain.varTypes Tryd.prog).any (Tryd.prog.loopsFrom ·))) = true := by kernel_rfl
theorem k17 : ((Rows.reduceKeepsRow.wideKeys == (Tryd.f9.params.toList ++ Rows.reduceKeepsSpec.plain.varTypes Tryd.prog ++ Tryd.f9.resultTypes.toList).any (Tryd.prog.wideKeysFrom ·))) = true := by kernel_rfl
theorem k18 : (Rows.reduceKeepsSpec.vars.all (Tryd.prog.varReadable ·)) = true := by kernel_rfl
theorem k19 : (Tryd.f9.resultTypes.all (fun t => Tryd.prog.readableRec t && decide (t < Tryd.prog.types.size))) = true := by kernel_rfl
theorem k20 : ((Rows.reduceKeepsRow.ifacesOut == Tryd.f9.resultTypes.toList.any (Tryd.prog.ifacesRec ·))) = true := by kernel_rfl
theorem k21 : ((Rows.reduceKeepsRow.loopsOut == Tryd.f9.resultTypes.toList.any (Tryd.prog.loopsFrom ·))) = true := by kernel_rfl
theorem k22 : ((Rows.reduceKeepsRow.plainKeys == Tryd.prog.plainKeys)) = true := by kernel_rfl
theorem k23 : (Rows.reduceKeepsRow.shortTexts.isNone) = true := by kernel_rfl
theorem k26 : ((Rows.reduceKeepsRow.lifted == Tryd.prog.liftsFinal)) = true := by kernel_rfl
theorem k27 : ((Tryd.prog.make == some Rows.reduceKeepsRow.make)) = true := by kernel_rfl
theorem k28 : ((Rows.reduceKeepsRow.kinds == (if Rows.reduceKeepsRow.domain.isEmpty then [] else Tryd.f9.params.toList.map fun t => match Tryd.prog.underlying t with | some (.int k) => some k | _ => none))) = true := by kernel_rfl
theorem k29 : ((Rows.reduceKeepsRow.pinned == Rows.reduceKeepsRow.pinnedBy)) = true := by kernel_rfl
theorem k30 : ((Rows.reduceKeepsRow.veiled == (Tryd.f9.params.toList ++ Rows.reduceKeepsSpec.plain.varTypes Tryd.prog ++ Tryd.f9.resultTypes.toList).any (Tryd.prog.veiledRec ·))) = true := by kernel_rfl
theorem k31 : (Rows.reduceKeepsRow.veiledFits Tryd.prog Tryd.f9.params.toList (Tryd.f9.params.toList ++ Rows.reduceKeepsSpec.plain.varTypes Tryd.prog ++ Tryd.f9.resultTypes.toList)) = true := by kernel_rfl
set_option maxRecDepth 100000 in
theorem closed : joinedFacts Tryd.prog 9 Tryd.f9 Rows.reduceKeepsSpec Rows.reduceKeepsRow = true := by
 unfold joinedFacts
 exact Facts.andT (Facts.andT (Facts.andT (Facts.andT (Facts.andT (Facts.andT (Facts.andT (Facts.andT (Facts.andT (Facts.andT (Facts.andT (Facts.andT (Facts.andT (Facts.andT (Facts.andT (Facts.andT (Facts.andT (Facts.andT (Facts.andT (Facts.andT (Facts.andT (Facts.andT (Facts.andT (Facts.andT (Facts.andT (Facts.andT (Facts.andT (Facts.andT (Facts.andT (Facts.andT (Facts.andT (k0) Facts.laidOut) Facts.mapsRowed) k3) k4) k5) k6) k7) k8) k9) k10) k11) k12) k13) k14) k15) k16) k17) k18) k19) k20) k21) k22) k23) Facts.stopsHeard) Facts.mayEnter) k26) k27) k28) k29) k30) k31
theorem named_ : Tryd.prog.funcNamed Rows.reduceKeepsRow.func = some 9 := by kernel_rfl
theorem inst_ : decide (Tryd.f9.isInstance Tryd.prog Rows.reduceKeepsRow.origin Rows.reduceKeepsRow.targs) = true := by kernel_rfl
theorem over : Rows.reduceKeepsRow.holds Tryd.pinned (OpenSpec.ofChange Rows.reduceKeepsSpec) :=
 OpenClaim.holds_of_wide 9 Tryd.f9 rfl rfl rfl rfl rfl rfl rfl ⟨rfl, rfl, rfl, rfl, rfl⟩ rfl rfl rfl rfl rfl named_ Tryd.func9 closed
  (of_decide_eq_true inst_) (by unfold Func.isWrapper; first | (rw [if_pos (by decide +kernel)]; kernel_rfl) | (rw [if_neg (by decide +kernel)]; exact ⟨rfl, rfl⟩))
  (fun os started H enc _ => lifted os started H enc)
theorem proved : Rows.ReduceKeepsSaid := over
/-- The row's card: what it lists is tied to the program's text by the given tie. -/
theorem card : Rows.ReduceKeepsCardSaid :=
  Claim7.holds_tied_plain_at .later [] [.data] true (true, "9e7a8f899bd286d8bc98563b4d28fca0e2a8e363fe54ef872c95701a0364b87d") false
    over (fun _ h => by cases h) (by kernel_rfl) (fun _ h => by cases h) reduceKeeps_row_tie rfl ⟨rfl, rfl⟩ (by kernel_rfl) rfl
    (fun f fn hf hfn => by
      obtain rfl : f = 9 := Option.some.inj (hf.symm.trans named_)
      obtain rfl : fn = Tryd.f9 := (Option.some.inj (Tryd.func9.symm.trans hfn)).symm
      exact ⟨by kernel_rfl, fun j t ht => Door.noStand (by kernel_rfl) j t ht⟩)
    (by kernel_rfl)
#print axioms card
end Go.Proofs.YtfcedhejbnoinaaDoor.reduceKeeps
namespace Go.Proofs.YtfcedhejbnoinaaDoor
/-- The card, under a short name, for the claim. -/
theorem reduceKeeps_holds : Rows.ReduceKeepsCardSaid := reduceKeeps.card
end Go.Proofs.YtfcedhejbnoinaaDoor
