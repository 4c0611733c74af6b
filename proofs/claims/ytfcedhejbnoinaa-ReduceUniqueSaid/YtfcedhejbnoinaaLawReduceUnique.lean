/- The law ReduceUnique: for every input it answers true, and its input reads behind the call as it read ahead of it. -/
import Derived.Test.YtfcedhejbnoinaaRows
import Derived.Test.YtfcedhejbnoinaaPBx7
import Derived.Test.YtfcedhejbnoinaaPureReduceUnique
import Derived.Test.YtfcedhejbnoinaaPBxO
import Derived.Test.YtfcedhejbnoinaaVOpens
import Derived.Test.YtfcedhejbnoinaaVFacts
import Derived.WalkKit
import Derived.ProofKit
import Derived.OpenShut
import Derived.ShutString
import Derived.ChangeOld
import Derived.Below
import Derived.SizedLaws
namespace Go.Proofs.Ytfcedhejbnoinaa.reduceUnique
open Go.ChangeShapes Go.WideShapes Go.ChangeAt Go.RowKit
open Go.ChangeMaps (open_string shut_string)
open Go.Proofs.Ytfcedhejbnoinaa.PB Go.Proofs.YtfcedhejbnoinaaW.PrintWords Go.Proofs.YtfcedhejbnoinaaW.PrintLast Go.Proofs.Ytfcedhejbnoinaa
set_option linter.unusedVariables false
theorem own : ownKnob Try.prog.godebug = none := by kernel_rfl
theorem laidOut : laidOutB Try.prog = true := Facts.laidOut
set_option maxHeartbeats 8000000 in
set_option maxRecDepth 100000 in
theorem lifted (os : Os) (started : os.Started) (H : Type) (enc : TypeId × Value → H) :
  ReturnsInHanded {} Try.checked os 4 .any (Rows.reduceUniqueSpec.pre6 enc Try.prog Try.f4 Rows.reduceUniqueRow.domain false) (Rows.reduceUniqueSpec.post enc Try.prog Try.f4 false true false false) := by
 refine returnsInHanded_of_change_sized (C := Try.checked) own started (by kernel_rfl) Try.func4
  (ChangeSpec.witness6 (enc := enc) (C := Try.checked) false ⟨#[], #[.agg #[.int .i64 0, .slice none 0 0], .int .i64 0, .int .i64 0], []⟩ 8 (by kernel_rfl) (by kernel_rfl) (by kernel_rfl) (by kernel_rfl)) ?_
 intro W base args ds gs before hval0 hW hcnd hsz0 _
 have hval : ∀ (j : Nat) t v, Try.f4.params[j]? = some t → args[j]? = some v → Value.okWide Try.prog W .any base t v := hval0
 have hW' := hW
 obtain ⟨p, q, hA0, hV, rfl, hfz, hnd⟩ := hW
 have hA : DataW.TrodAll enc Try.prog W 0 (fun _ => true) true Try.f4.params.toList args.toList ds p := hA0
 rw [Try.params4] at hA hval
 obtain ⟨v0, vs0, d0, ds0, p0, q0, hargs, rfl, rfl, h0, r0⟩ := trodAll_cons hA
 obtain ⟨v1, vs1, d1, ds1, p1, q1, rfl, rfl, rfl, h1, r1⟩ := trodAll_cons r0
 obtain ⟨v2, vs2, d2, ds2, p2, q2, rfl, rfl, rfl, h2, r2⟩ := trodAll_cons r1
 obtain ⟨rfl, rfl, rfl⟩ := trodAll_nil r2
 obtain rfl : args = #[v0, v1, v2] := by cases args; simp_all
 obtain ⟨rfl, rfl⟩ := trodVars_none hV
 have k0 := h0
 have lt0 : ∀ x ∈ p0, x.block < W.heap.size := by obtain ⟨m, hm⟩ := k0; exact DataW.trod_lt m _ _ _ hm
 obtain ⟨x0, K0, Q0⟩ := Opens.Opens.arg (P := Try.prog) (W := W) opens24 h0
 obtain ⟨cs0, rfl, hcs0⟩ := okWide_struct Try.underlying24 (hval 0 24 v0 rfl rfl)
 obtain ⟨A0_1, c0_1, e0, hl0_1, hr0_1⟩ := k24_open K0
 obtain rfl : cs0 = #[.int .i64 x0.f0, .slice A0_1 x0.f1.length c0_1] := by rw [← Array.toList_inj]; simpa [Value.cells] using e0
 obtain ⟨x1, rfl, rfl, rfl, Q1⟩ := open_int Try.underlying3 (hval 1 3 v1 rfl rfl) h1
 obtain ⟨x2, rfl, rfl, rfl, Q2⟩ := open_int Try.underlying3 (hval 2 3 v2 rfl rfl) h2
 clear hA0 hval0 hsz0
 obtain ⟨k, hk⟩ := Pure.ReduceUnique x0 Q0 x1 Q1 x2 Q2
 refine (downpourlaw04_ReduceUnique.calls k x0.f0 A0_1 c0_1 x0.f1 x1 x2 true W hr0_1 hl0_1 hk).mono fun e W' ⟨he, bel⟩ => ?_
 subst he
 exact ⟨_, rfl, _, _, _, [], _, [], hW', trodAll_mk1 (shut_bool Try.underlying4 _), (trodAll_cons_mk (Below.trod laidOut (by kernel_rfl) (of_decide_eq_true (by kernel_rfl)) k0 bel lt0) (trodAll_cons_mk (shut_int Try.underlying3 Q1) (trodAll_cons_mk (shut_int Try.underlying3 Q2) trodAll_mk0))), rfl, bel.frame _, fun h => by cases h⟩
theorem k0 : (Rows.reduceUniqueRow.wf (OpenSpec.ofChange Rows.reduceUniqueSpec)) = true := by kernel_rfl
theorem k3 : (Try.f4.params.all (Try.prog.readableRec ·)) = true := by kernel_rfl
theorem k4 : (namedTie Try.prog Rows.reduceUniqueRow.named Rows.reduceUniqueSpec.vars) = true := by kernel_rfl
theorem k5 : ((Rows.reduceUniqueRow.stops == [])) = true := by kernel_rfl
theorem k6 : ((Try.prog.stops == [])) = true := by kernel_rfl
theorem k7 : ((Rows.reduceUniqueRow.knobs == [])) = true := by kernel_rfl
theorem k8 : ((Try.prog.stopKnobs == [])) = true := by kernel_rfl
theorem k9 : ((Rows.reduceUniqueRow.inPlace == Try.prog.inPlace 4)) = true := by kernel_rfl
theorem k10 : ((Rows.reduceUniqueRow.unfollowed == Try.prog.unfollowed 4)) = true := by kernel_rfl
theorem k11 : ((Rows.reduceUniqueRow.recurses == Try.prog.recurses 4)) = true := by kernel_rfl
theorem k12 : ((Rows.reduceUniqueRow.named == Try.prog.varsNamed 4)) = true := by kernel_rfl
theorem k13 : ((Rows.reduceUniqueRow.maps == (Try.f4.params.toList ++ Rows.reduceUniqueSpec.plain.varTypes Try.prog).any (Try.prog.mapsRec ·))) = true := by kernel_rfl
theorem k14 : ((Rows.reduceUniqueRow.ifaces == (Try.f4.params.toList ++ Rows.reduceUniqueSpec.plain.varTypes Try.prog).any (Try.prog.ifacesRec ·))) = true := by kernel_rfl
theorem k15 : ((Rows.reduceUniqueRow.mapsOut == Try.prog.mapsAmong Try.f4.resultTypes.toList)) = true := by kernel_rfl
theorem k16 : ((Rows.reduceUniqueRow.loops == (Try.f4.params.toList ++ Rows.reduceUniqueSpec.plain.varTypes Try.prog).any (Try.prog.loopsFrom ·))) = true := by kernel_rfl
theorem k17 : ((Rows.reduceUniqueRow.wideKeys == (Try.f4.params.toList ++ Rows.reduceUniqueSpec.plain.varTypes Try.prog ++ Try.f4.resultTypes.toList).any (Try.prog.wideKeysFrom ·))) = true := by kernel_rfl
theorem k18 : (Rows.reduceUniqueSpec.vars.all (Try.prog.varReadable ·)) = true := by kernel_rfl
theorem k19 : (Try.f4.resultTypes.all (fun t => Try.prog.readableRec t && decide (t < Try.prog.types.size))) = true := by kernel_rfl
theorem k20 : ((Rows.reduceUniqueRow.ifacesOut == Try.f4.resultTypes.toList.any (Try.prog.ifacesRec ·))) = true := by kernel_rfl
theorem k21 : ((Rows.reduceUniqueRow.loopsOut == Try.f4.resultTypes.toList.any (Try.prog.loopsFrom ·))) = true := by kernel_rfl
theorem k22 : ((Rows.reduceUniqueRow.plainKeys == Try.prog.plainKeys)) = true := by kernel_rfl
theorem k23 : (Rows.reduceUniqueRow.shortTexts.isNone) = true := by kernel_rfl
theorem k26 : ((Rows.reduceUniqueRow.lifted == Try.prog.liftsFinal)) = true := by kernel_rfl
theorem k27 : ((Try.prog.make == some Rows.reduceUniqueRow.make)) = true := by kernel_rfl
theorem k28 : ((Rows.reduceUniqueRow.kinds == (if Rows.reduceUniqueRow.domain.isEmpty then [] else Try.f4.params.toList.map fun t => match Try.prog.underlying t with | some (.int k) => some k | _ => none))) = true := by kernel_rfl
theorem k29 : ((Rows.reduceUniqueRow.pinned == Rows.reduceUniqueRow.pinnedBy)) = true := by kernel_rfl
theorem k30 : ((Rows.reduceUniqueRow.veiled == (Try.f4.params.toList ++ Rows.reduceUniqueSpec.plain.varTypes Try.prog ++ Try.f4.resultTypes.toList).any (Try.prog.veiledRec ·))) = true := by kernel_rfl
theorem k31 : (Rows.reduceUniqueRow.veiledFits Try.prog Try.f4.params.toList (Try.f4.params.toList ++ Rows.reduceUniqueSpec.plain.varTypes Try.prog ++ Try.f4.resultTypes.toList)) = true := by kernel_rfl
set_option maxRecDepth 100000 in
theorem closed : joinedFacts Try.prog 4 Try.f4 Rows.reduceUniqueSpec Rows.reduceUniqueRow = true := by
 unfold joinedFacts
 exact Facts.andT (Facts.andT (Facts.andT (Facts.andT (Facts.andT (Facts.andT (Facts.andT (Facts.andT (Facts.andT (Facts.andT (Facts.andT (Facts.andT (Facts.andT (Facts.andT (Facts.andT (Facts.andT (Facts.andT (Facts.andT (Facts.andT (Facts.andT (Facts.andT (Facts.andT (Facts.andT (Facts.andT (Facts.andT (Facts.andT (Facts.andT (Facts.andT (Facts.andT (Facts.andT (Facts.andT (k0) Facts.laidOut) Facts.mapsRowed) k3) k4) k5) k6) k7) k8) k9) k10) k11) k12) k13) k14) k15) k16) k17) k18) k19) k20) k21) k22) k23) Facts.stopsHeard) Facts.mayEnter) k26) k27) k28) k29) k30) k31
theorem named_ : Try.prog.funcNamed Rows.reduceUniqueRow.func = some 4 := by kernel_rfl
theorem inst_ : decide (Try.f4.isInstance Try.prog Rows.reduceUniqueRow.origin Rows.reduceUniqueRow.targs) = true := by kernel_rfl
theorem over : Rows.reduceUniqueRow.holds Try.pinned (OpenSpec.ofChange Rows.reduceUniqueSpec) :=
 OpenClaim.holds_of_wide 4 Try.f4 rfl rfl rfl rfl rfl rfl rfl ⟨rfl, rfl, rfl, rfl, rfl⟩ rfl rfl rfl rfl rfl named_ Try.func4 closed
  (of_decide_eq_true inst_) (by unfold Func.isWrapper; first | (rw [if_pos (by decide +kernel)]; kernel_rfl) | (rw [if_neg (by decide +kernel)]; exact ⟨rfl, rfl⟩))
  (fun os started H enc _ => lifted os started H enc)
theorem proved : Rows.ReduceUniqueSaid := over
#print axioms proved
end Go.Proofs.Ytfcedhejbnoinaa.reduceUnique
namespace Go.Proofs.Ytfcedhejbnoinaa
/-- The row, under a short name, for the claim. -/
theorem reduceUnique_holds : Rows.ReduceUniqueSaid := reduceUnique.proved
end Go.Proofs.Ytfcedhejbnoinaa
