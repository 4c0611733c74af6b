/- The law ReduceRows: for every input it answers true, and its input reads behind the call as it read ahead of it. -/
import Derived.Test.YtfcedhejbnoinaaRows
import Derived.Test.YtfcedhejbnoinaaPAx11
import Derived.Test.YtfcedhejbnoinaaPureReduceRows
import Derived.Test.YtfcedhejbnoinaaPAxO
import Derived.Test.YtfcedhejbnoinaaVOpens
import Derived.Test.YtfcedhejbnoinaaVFacts
import Derived.WalkKit
import Derived.ProofKit
import Derived.OpenShut
import Derived.ShutString
import Derived.ChangeOld
import Derived.Below
import Derived.SizedLaws
namespace Go.Proofs.Ytfcedhejbnoinaa.reduceRows
open Go.ChangeShapes Go.WideShapes Go.ChangeAt Go.RowKit
open Go.ChangeMaps (open_string shut_string)
open Go.Proofs.Ytfcedhejbnoinaa.PA Go.Proofs.YtfcedhejbnoinaaW.PrintWords Go.Proofs.YtfcedhejbnoinaaW.PrintLast Go.Proofs.Ytfcedhejbnoinaa
set_option linter.unusedVariables false
theorem own : ownKnob Try.prog.godebug = none := by kernel_rfl
theorem laidOut : laidOutB Try.prog = true := Facts.laidOut
set_option maxHeartbeats 8000000 in
set_option maxRecDepth 100000 in
theorem lifted (os : Os) (started : os.Started) (H : Type) (enc : TypeId × Value → H) :
  ReturnsInHanded {} Try.checked os 3 .any (Rows.reduceRowsSpec.pre6 enc Try.prog Try.f3 Rows.reduceRowsRow.domain false) (Rows.reduceRowsSpec.post enc Try.prog Try.f3 false true false false) := by
 refine returnsInHanded_of_change_sized (C := Try.checked) own started (by kernel_rfl) Try.func3
  (ChangeSpec.witness6 (enc := enc) (C := Try.checked) false ⟨#[], #[.agg #[.int .i64 0, .slice none 0 0]], []⟩ 8 (by kernel_rfl) (by kernel_rfl) (by kernel_rfl) (by kernel_rfl)) ?_
 intro W base args ds gs before hval0 hW hcnd hsz0 _
 have hval : ∀ (j : Nat) t v, Try.f3.params[j]? = some t → args[j]? = some v → Value.okWide Try.prog W .any base t v := hval0
 have hW' := hW
 obtain ⟨p, q, hA0, hV, rfl, hfz, hnd⟩ := hW
 have hA : DataW.TrodAll enc Try.prog W 0 (fun _ => true) true Try.f3.params.toList args.toList ds p := hA0
 rw [Try.params3] at hA hval
 obtain ⟨v0, vs0, d0, ds0, p0, q0, hargs, rfl, rfl, h0, r0⟩ := trodAll_cons hA
 obtain ⟨rfl, rfl, rfl⟩ := trodAll_nil r0
 obtain rfl : args = #[v0] := by cases args; simp_all
 obtain ⟨rfl, rfl⟩ := trodVars_none hV
 have k0 := h0
 have lt0 : ∀ x ∈ p0, x.block < W.heap.size := by obtain ⟨m, hm⟩ := k0; exact DataW.trod_lt m _ _ _ hm
 obtain ⟨x0, K0, Q0⟩ := Opens.Opens.arg (P := Try.prog) (W := W) opens24 h0
 obtain ⟨cs0, rfl, hcs0⟩ := okWide_struct Try.underlying24 (hval 0 24 v0 rfl rfl)
 obtain ⟨A0_1, c0_1, e0, hl0_1, hr0_1⟩ := k24_open K0
 obtain rfl : cs0 = #[.int .i64 x0.f0, .slice A0_1 x0.f1.length c0_1] := by rw [← Array.toList_inj]; simpa [Value.cells] using e0
 clear hA0 hval0 hsz0
 obtain ⟨k, hk⟩ := Pure.ReduceRows x0 Q0
 refine (downpourlaw04_ReduceRows.calls k x0.f0 A0_1 c0_1 x0.f1 true W hr0_1 hl0_1 hk).mono fun e W' ⟨he, bel⟩ => ?_
 subst he
 exact ⟨_, rfl, _, _, _, [], _, [], hW', trodAll_mk1 (shut_bool Try.underlying4 _), (trodAll_cons_mk (Below.trod laidOut (by kernel_rfl) (of_decide_eq_true (by kernel_rfl)) k0 bel lt0) trodAll_mk0), rfl, bel.frame _, fun h => by cases h⟩
theorem k0 : (Rows.reduceRowsRow.wf (OpenSpec.ofChange Rows.reduceRowsSpec)) = true := by kernel_rfl
theorem k3 : (Try.f3.params.all (Try.prog.readableRec ·)) = true := by kernel_rfl
theorem k4 : (namedTie Try.prog Rows.reduceRowsRow.named Rows.reduceRowsSpec.vars) = true := by kernel_rfl
theorem k5 : ((Rows.reduceRowsRow.stops == [])) = true := by kernel_rfl
theorem k6 : ((Try.prog.stops == [])) = true := by kernel_rfl
theorem k7 : ((Rows.reduceRowsRow.knobs == [])) = true := by kernel_rfl
theorem k8 : ((Try.prog.stopKnobs == [])) = true := by kernel_rfl
theorem k9 : ((Rows.reduceRowsRow.inPlace == Try.prog.inPlace 3)) = true := by kernel_rfl
theorem k10 : ((Rows.reduceRowsRow.unfollowed == Try.prog.unfollowed 3)) = true := by kernel_rfl
theorem k11 : ((Rows.reduceRowsRow.recurses == Try.prog.recurses 3)) = true := by kernel_rfl
theorem k12 : ((Rows.reduceRowsRow.named == Try.prog.varsNamed 3)) = true := by kernel_rfl
theorem k13 : ((Rows.reduceRowsRow.maps == (Try.f3.params.toList ++ Rows.reduceRowsSpec.plain.varTypes Try.prog).any (Try.prog.mapsRec ·))) = true := by kernel_rfl
theorem k14 : ((Rows.reduceRowsRow.ifaces == (Try.f3.params.toList ++ Rows.reduceRowsSpec.plain.varTypes Try.prog).any (Try.prog.ifacesRec ·))) = true := by kernel_rfl
theorem k15 : ((Rows.reduceRowsRow.mapsOut == Try.prog.mapsAmong Try.f3.resultTypes.toList)) = true := by kernel_rfl
theorem k16 : ((Rows.reduceRowsRow.loops == (Try.f3.params.toList ++ Rows.reduceRowsSpec.plain.varTypes Try.prog).any (Try.prog.loopsFrom ·))) = true := by kernel_rfl
theorem k17 : ((Rows.reduceRowsRow.wideKeys == (Try.f3.params.toList ++ Rows.reduceRowsSpec.plain.varTypes Try.prog ++ Try.f3.resultTypes.toList).any (Try.prog.wideKeysFrom ·))) = true := by kernel_rfl
theorem k18 : (Rows.reduceRowsSpec.vars.all (Try.prog.varReadable ·)) = true := by kernel_rfl
theorem k19 : (Try.f3.resultTypes.all (fun t => Try.prog.readableRec t && decide (t < Try.prog.types.size))) = true := by kernel_rfl
theorem k20 : ((Rows.reduceRowsRow.ifacesOut == Try.f3.resultTypes.toList.any (Try.prog.ifacesRec ·))) = true := by kernel_rfl
theorem k21 : ((Rows.reduceRowsRow.loopsOut == Try.f3.resultTypes.toList.any (Try.prog.loopsFrom ·))) = true := by kernel_rfl
theorem k22 : ((Rows.reduceRowsRow.plainKeys == Try.prog.plainKeys)) = true := by kernel_rfl
theorem k23 : (Rows.reduceRowsRow.shortTexts.isNone) = true := by kernel_rfl
theorem k26 : ((Rows.reduceRowsRow.lifted == Try.prog.liftsFinal)) = true := by kernel_rfl
theorem k27 : ((Try.prog.make == some Rows.reduceRowsRow.make)) = true := by kernel_rfl
theorem k28 : ((Rows.reduceRowsRow.kinds == (if Rows.reduceRowsRow.domain.isEmpty then [] else Try.f3.params.toList.map fun t => match Try.prog.underlying t with | some (.int k) => some k | _ => none))) = true := by kernel_rfl
theorem k29 : ((Rows.reduceRowsRow.pinned == Rows.reduceRowsRow.pinnedBy)) = true := by kernel_rfl
theorem k30 : ((Rows.reduceRowsRow.veiled == (Try.f3.params.toList ++ Rows.reduceRowsSpec.plain.varTypes Try.prog ++ Try.f3.resultTypes.toList).any (Try.prog.veiledRec ·))) = true := by kernel_rfl
theorem k31 : (Rows.reduceRowsRow.veiledFits Try.prog Try.f3.params.toList (Try.f3.params.toList ++ Rows.reduceRowsSpec.plain.varTypes Try.prog ++ Try.f3.resultTypes.toList)) = true := by kernel_rfl
set_option maxRecDepth 100000 in
theorem closed : joinedFacts Try.prog 3 Try.f3 Rows.reduceRowsSpec Rows.reduceRowsRow = true := by
 unfold joinedFacts
 exact Facts.andT (Facts.andT (Facts.andT (Facts.andT (Facts.andT (Facts.andT (Facts.andT (Facts.andT (Facts.andT (Facts.andT (Facts.andT (Facts.andT (Facts.andT (Facts.andT (Facts.andT (Facts.andT (Facts.andT (Facts.andT (Facts.andT (Facts.andT (Facts.andT (Facts.andT (Facts.andT (Facts.andT (Facts.andT (Facts.andT (Facts.andT (Facts.andT (Facts.andT (Facts.andT (Facts.andT (k0) Facts.laidOut) Facts.mapsRowed) k3) k4) k5) k6) k7) k8) k9) k10) k11) k12) k13) k14) k15) k16) k17) k18) k19) k20) k21) k22) k23) Facts.stopsHeard) Facts.mayEnter) k26) k27) k28) k29) k30) k31
theorem named_ : Try.prog.funcNamed Rows.reduceRowsRow.func = some 3 := by kernel_rfl
theorem inst_ : decide (Try.f3.isInstance Try.prog Rows.reduceRowsRow.origin Rows.reduceRowsRow.targs) = true := by kernel_rfl
theorem over : Rows.reduceRowsRow.holds Try.pinned (OpenSpec.ofChange Rows.reduceRowsSpec) :=
 OpenClaim.holds_of_wide 3 Try.f3 rfl rfl rfl rfl rfl rfl rfl ⟨rfl, rfl, rfl, rfl, rfl⟩ rfl rfl rfl rfl rfl named_ Try.func3 closed
  (of_decide_eq_true inst_) (by unfold Func.isWrapper; first | (rw [if_pos (by decide +kernel)]; kernel_rfl) | (rw [if_neg (by decide +kernel)]; exact ⟨rfl, rfl⟩))
  (fun os started H enc _ => lifted os started H enc)
theorem proved : Rows.ReduceRowsSaid := over
#print axioms proved
end Go.Proofs.Ytfcedhejbnoinaa.reduceRows
namespace Go.Proofs.Ytfcedhejbnoinaa
/-- The row, under a short name, for the claim. -/
theorem reduceRows_holds : Rows.ReduceRowsSaid := reduceRows.proved
end Go.Proofs.Ytfcedhejbnoinaa
