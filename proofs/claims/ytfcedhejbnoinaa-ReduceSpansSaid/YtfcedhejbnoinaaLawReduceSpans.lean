/- The law ReduceSpans: for every input it answers true, and its input reads behind the call as it read ahead of it. -/
import Derived.Test.YtfcedhejbnoinaaRows
import Derived.Test.YtfcedhejbnoinaaPCx9
import Derived.Test.YtfcedhejbnoinaaPureReduceSpans
import Derived.Test.YtfcedhejbnoinaaPCxO
import Derived.Test.YtfcedhejbnoinaaVOpens
import Derived.Test.YtfcedhejbnoinaaVFacts
import Derived.WalkKit
import Derived.ProofKit
import Derived.OpenShut
import Derived.ShutString
import Derived.ChangeOld
import Derived.Below
import Derived.SizedLaws
namespace Go.Proofs.Ytfcedhejbnoinaa.reduceSpans
open Go.ChangeShapes Go.WideShapes Go.ChangeAt Go.RowKit
open Go.ChangeMaps (open_string shut_string)
open Go.Proofs.Ytfcedhejbnoinaa.PC Go.Proofs.YtfcedhejbnoinaaW.PrintWords Go.Proofs.YtfcedhejbnoinaaW.PrintLast Go.Proofs.Ytfcedhejbnoinaa
set_option linter.unusedVariables false
theorem own : ownKnob Try.prog.godebug = none := by kernel_rfl
theorem laidOut : laidOutB Try.prog = true := Facts.laidOut
set_option maxHeartbeats 8000000 in
set_option maxRecDepth 100000 in
theorem lifted (os : Os) (started : os.Started) (H : Type) (enc : TypeId × Value → H) :
  ReturnsInHanded {} Try.checked os 5 .any (Rows.reduceSpansSpec.pre6 enc Try.prog Try.f5 Rows.reduceSpansRow.domain false) (Rows.reduceSpansSpec.post enc Try.prog Try.f5 false true false false) := by
 refine returnsInHanded_of_change_sized (C := Try.checked) own started (by kernel_rfl) Try.func5
  (ChangeSpec.witness6 (enc := enc) (C := Try.checked) false ⟨#[], #[.agg #[.int .i64 0, .slice none 0 0], .agg #[.int .i64 0, .slice none 0 0]], []⟩ 8 (by kernel_rfl) (by kernel_rfl) (by kernel_rfl) (by kernel_rfl)) ?_
 intro W base args ds gs before hval0 hW hcnd hsz0 _
 have hval : ∀ (j : Nat) t v, Try.f5.params[j]? = some t → args[j]? = some v → Value.okWide Try.prog W .any base t v := hval0
 have hW' := hW
 obtain ⟨p, q, hA0, hV, rfl, hfz, hnd⟩ := hW
 have hA : DataW.TrodAll enc Try.prog W 0 (fun _ => true) true Try.f5.params.toList args.toList ds p := hA0
 rw [Try.params5] at hA hval
 obtain ⟨v0, vs0, d0, ds0, p0, q0, hargs, rfl, rfl, h0, r0⟩ := trodAll_cons hA
 obtain ⟨v1, vs1, d1, ds1, p1, q1, rfl, rfl, rfl, h1, r1⟩ := trodAll_cons r0
 obtain ⟨rfl, rfl, rfl⟩ := trodAll_nil r1
 obtain rfl : args = #[v0, v1] := by cases args; simp_all
 obtain ⟨rfl, rfl⟩ := trodVars_none hV
 have k0 := h0
 have lt0 : ∀ x ∈ p0, x.block < W.heap.size := by obtain ⟨m, hm⟩ := k0; exact DataW.trod_lt m _ _ _ hm
 obtain ⟨x0, K0, Q0⟩ := Opens.Opens.arg (P := Try.prog) (W := W) opens24 h0
 obtain ⟨cs0, rfl, hcs0⟩ := okWide_struct Try.underlying24 (hval 0 24 v0 rfl rfl)
 obtain ⟨A0_1, c0_1, e0, hl0_1, hr0_1⟩ := k24_open K0
 obtain rfl : cs0 = #[.int .i64 x0.f0, .slice A0_1 x0.f1.length c0_1] := by rw [← Array.toList_inj]; simpa [Value.cells] using e0
 have k1 := h1
 have lt1 : ∀ x ∈ p1, x.block < W.heap.size := by obtain ⟨m, hm⟩ := k1; exact DataW.trod_lt m _ _ _ hm
 obtain ⟨x1, K1, Q1⟩ := Opens.Opens.arg (P := Try.prog) (W := W) opens40 h1
 obtain ⟨cs1, rfl, hcs1⟩ := okWide_struct Try.underlying40 (hval 1 40 v1 rfl rfl)
 obtain ⟨A1_1, c1_1, e1, hl1_1, hr1_1⟩ := k40_open K1
 obtain rfl : cs1 = #[.int .i64 x1.f0, .slice A1_1 x1.f1.length c1_1] := by rw [← Array.toList_inj]; simpa [Value.cells] using e1
 clear hA0 hval0 hsz0
 obtain ⟨k, hk⟩ := Pure.ReduceSpans x0 Q0 x1 Q1
 refine (downpourlaw04_ReduceSpans.calls k x0.f0 A0_1 c0_1 x0.f1 x1.f0 A1_1 c1_1 x1.f1 true W hr0_1 hl0_1 hr1_1 hl1_1 hk).mono fun e W' ⟨he, bel⟩ => ?_
 subst he
 exact ⟨_, rfl, _, _, _, [], _, [], hW', trodAll_mk1 (shut_bool Try.underlying4 _), (trodAll_cons_mk (Below.trod laidOut (by kernel_rfl) (of_decide_eq_true (by kernel_rfl)) k0 bel lt0) (trodAll_cons_mk (Below.trod laidOut (by kernel_rfl) (of_decide_eq_true (by kernel_rfl)) k1 bel lt1) trodAll_mk0)), rfl, bel.frame _, fun h => by cases h⟩
theorem k0 : (Rows.reduceSpansRow.wf (OpenSpec.ofChange Rows.reduceSpansSpec)) = true := by kernel_rfl
theorem k3 : (Try.f5.params.all (Try.prog.readableRec ·)) = true := by kernel_rfl
theorem k4 : (namedTie Try.prog Rows.reduceSpansRow.named Rows.reduceSpansSpec.vars) = true := by kernel_rfl
theorem k5 : ((Rows.reduceSpansRow.stops == [])) = true := by kernel_rfl
theorem k6 : ((Try.prog.stops == [])) = true := by kernel_rfl
theorem k7 : ((Rows.reduceSpansRow.knobs == [])) = true := by kernel_rfl
theorem k8 : ((Try.prog.stopKnobs == [])) = true := by kernel_rfl
theorem k9 : ((Rows.reduceSpansRow.inPlace == Try.prog.inPlace 5)) = true := by kernel_rfl
theorem k10 : ((Rows.reduceSpansRow.unfollowed == Try.prog.unfollowed 5)) = true := by kernel_rfl
theorem k11 : ((Rows.reduceSpansRow.recurses == Try.prog.recurses 5)) = true := by kernel_rfl
theorem k12 : ((Rows.reduceSpansRow.named == Try.prog.varsNamed 5)) = true := by kernel_rfl
theorem k13 : ((Rows.reduceSpansRow.maps == (Try.f5.params.toList ++ Rows.reduceSpansSpec.plain.varTypes Try.prog).any (Try.prog.mapsRec ·))) = true := by kernel_rfl
theorem k14 : ((Rows.reduceSpansRow.ifaces == (Try.f5.params.toList ++ Rows.reduceSpansSpec.plain.varTypes Try.prog).any (Try.prog.ifacesRec ·))) = true := by kernel_rfl
theorem k15 : ((Rows.reduceSpansRow.mapsOut == Try.prog.mapsAmong Try.f5.resultTypes.toList)) = true := by kernel_rfl
theorem k16 : ((Rows.reduceSpansRow.loops == (Try.f5.params.toList ++ Rows.reduceSpansSpec.plain.varTypes Try.prog).any (Try.prog.loopsFrom ·))) = true := by kernel_rfl
theorem k17 : ((Rows.reduceSpansRow.wideKeys == (Try.f5.params.toList ++ Rows.reduceSpansSpec.plain.varTypes Try.prog ++ Try.f5.resultTypes.toList).any (Try.prog.wideKeysFrom ·))) = true := by kernel_rfl
theorem k18 : (Rows.reduceSpansSpec.vars.all (Try.prog.varReadable ·)) = true := by kernel_rfl
theorem k19 : (Try.f5.resultTypes.all (fun t => Try.prog.readableRec t && decide (t < Try.prog.types.size))) = true := by kernel_rfl
theorem k20 : ((Rows.reduceSpansRow.ifacesOut == Try.f5.resultTypes.toList.any (Try.prog.ifacesRec ·))) = true := by kernel_rfl
theorem k21 : ((Rows.reduceSpansRow.loopsOut == Try.f5.resultTypes.toList.any (Try.prog.loopsFrom ·))) = true := by kernel_rfl
theorem k22 : ((Rows.reduceSpansRow.plainKeys == Try.prog.plainKeys)) = true := by kernel_rfl
theorem k23 : (Rows.reduceSpansRow.shortTexts.isNone) = true := by kernel_rfl
theorem k26 : ((Rows.reduceSpansRow.lifted == Try.prog.liftsFinal)) = true := by kernel_rfl
theorem k27 : ((Try.prog.make == some Rows.reduceSpansRow.make)) = true := by kernel_rfl
theorem k28 : ((Rows.reduceSpansRow.kinds == (if Rows.reduceSpansRow.domain.isEmpty then [] else Try.f5.params.toList.map fun t => match Try.prog.underlying t with | some (.int k) => some k | _ => none))) = true := by kernel_rfl
theorem k29 : ((Rows.reduceSpansRow.pinned == Rows.reduceSpansRow.pinnedBy)) = true := by kernel_rfl
theorem k30 : ((Rows.reduceSpansRow.veiled == (Try.f5.params.toList ++ Rows.reduceSpansSpec.plain.varTypes Try.prog ++ Try.f5.resultTypes.toList).any (Try.prog.veiledRec ·))) = true := by kernel_rfl
theorem k31 : (Rows.reduceSpansRow.veiledFits Try.prog Try.f5.params.toList (Try.f5.params.toList ++ Rows.reduceSpansSpec.plain.varTypes Try.prog ++ Try.f5.resultTypes.toList)) = true := by kernel_rfl
set_option maxRecDepth 100000 in
theorem closed : joinedFacts Try.prog 5 Try.f5 Rows.reduceSpansSpec Rows.reduceSpansRow = true := by
 unfold joinedFacts
 exact Facts.andT (Facts.andT (Facts.andT (Facts.andT (Facts.andT (Facts.andT (Facts.andT (Facts.andT (Facts.andT (Facts.andT (Facts.andT (Facts.andT (Facts.andT (Facts.andT (Facts.andT (Facts.andT (Facts.andT (Facts.andT (Facts.andT (Facts.andT (Facts.andT (Facts.andT (Facts.andT (Facts.andT (Facts.andT (Facts.andT (Facts.andT (Facts.andT (Facts.andT (Facts.andT (Facts.andT (k0) Facts.laidOut) Facts.mapsRowed) k3) k4) k5) k6) k7) k8) k9) k10) k11) k12) k13) k14) k15) k16) k17) k18) k19) k20) k21) k22) k23) Facts.stopsHeard) Facts.mayEnter) k26) k27) k28) k29) k30) k31
theorem named_ : Try.prog.funcNamed Rows.reduceSpansRow.func = some 5 := by kernel_rfl
theorem inst_ : decide (Try.f5.isInstance Try.prog Rows.reduceSpansRow.origin Rows.reduceSpansRow.targs) = true := by kernel_rfl
theorem over : Rows.reduceSpansRow.holds Try.pinned (OpenSpec.ofChange Rows.reduceSpansSpec) :=
 OpenClaim.holds_of_wide 5 Try.f5 rfl rfl rfl rfl rfl rfl rfl ⟨rfl, rfl, rfl, rfl, rfl⟩ rfl rfl rfl rfl rfl named_ Try.func5 closed
  (of_decide_eq_true inst_) (by unfold Func.isWrapper; first | (rw [if_pos (by decide +kernel)]; kernel_rfl) | (rw [if_neg (by decide +kernel)]; exact ⟨rfl, rfl⟩))
  (fun os started H enc _ => lifted os started H enc)
theorem proved : Rows.ReduceSpansSaid := over
#print axioms proved
end Go.Proofs.Ytfcedhejbnoinaa.reduceSpans
namespace Go.Proofs.Ytfcedhejbnoinaa
/-- The row, under a short name, for the claim. -/
theorem reduceSpans_holds : Rows.ReduceSpansSaid := reduceSpans.proved
end Go.Proofs.Ytfcedhejbnoinaa
