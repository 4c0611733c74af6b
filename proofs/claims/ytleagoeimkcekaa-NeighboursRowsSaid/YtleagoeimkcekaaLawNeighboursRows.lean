/- The law NeighboursRows: for every input it answers true, and its input reads behind the call as it read ahead of it. -/
import Derived.Test.YtleagoeimkcekaaRows
import Derived.Test.YtleagoeimkcekaaNbr
import Derived.WalkKit
import Derived.ProofKit
import Derived.OpenShut
import Derived.ShutString
import Derived.ChangeOld
import Derived.Below
import Derived.SizedLaws
import Derived.JoinedOf
namespace Go.Proofs.Ytleagoeimkcekaa.neighboursRows
open Go.ChangeShapes Go.WideShapes Go.ChangeAt Go.RowKit Go.PM
open Go.ChangeMaps (open_string shut_string)
open Go.Proofs.Ytleagoeimkcekaa
set_option linter.unusedVariables false
theorem k0 : (Rows.neighboursRowsRow.wf (OpenSpec.ofChange Rows.neighboursRowsSpec)) = true := by kernel_rfl
theorem k3 : (Try.f4.params.all (Try.prog.readableRec ·)) = true := by kernel_rfl
theorem k4 : (namedTie Try.prog Rows.neighboursRowsRow.named Rows.neighboursRowsSpec.vars) = true := by kernel_rfl
theorem k5 : ((Rows.neighboursRowsRow.stops == [])) = true := by kernel_rfl
theorem k6 : ((Try.prog.stops == [])) = true := by kernel_rfl
theorem k7 : ((Rows.neighboursRowsRow.knobs == [])) = true := by kernel_rfl
theorem k8 : ((Try.prog.stopKnobs == [])) = true := by kernel_rfl
theorem k9 : ((Rows.neighboursRowsRow.inPlace == Try.prog.inPlace 4)) = true := by kernel_rfl
theorem k10 : ((Rows.neighboursRowsRow.unfollowed == Try.prog.unfollowed 4)) = true := by kernel_rfl
theorem k11 : ((Rows.neighboursRowsRow.recurses == Try.prog.recurses 4)) = true := by kernel_rfl
theorem k12 : ((Rows.neighboursRowsRow.named == Try.prog.varsNamed 4)) = true := by kernel_rfl
theorem k13 : ((Rows.neighboursRowsRow.maps == (Try.f4.params.toList ++ Rows.neighboursRowsSpec.plain.varTypes Try.prog).any (Try.prog.mapsRec ·))) = true := by kernel_rfl
theorem k14 : ((Rows.neighboursRowsRow.ifaces == (Try.f4.params.toList ++ Rows.neighboursRowsSpec.plain.varTypes Try.prog).any (Try.prog.ifacesRec ·))) = true := by kernel_rfl
theorem k15 : ((Rows.neighboursRowsRow.mapsOut == Try.prog.mapsAmong Try.f4.resultTypes.toList)) = true := by kernel_rfl
theorem k16 : ((Rows.neighboursRowsRow.loops == (Try.f4.params.toList ++ Rows.neighboursRowsSpec.plain.varTypes Try.prog).any (Try.prog.loopsFrom ·))) = true := by kernel_rfl
theorem k17 : ((Rows.neighboursRowsRow.wideKeys == (Try.f4.params.toList ++ Rows.neighboursRowsSpec.plain.varTypes Try.prog ++ Try.f4.resultTypes.toList).any (Try.prog.wideKeysFrom ·))) = true := by kernel_rfl
theorem k18 : (Rows.neighboursRowsSpec.vars.all (Try.prog.varReadable ·)) = true := by kernel_rfl
theorem k19 : (Try.f4.resultTypes.all (fun t => Try.prog.readableRec t && decide (t < Try.prog.types.size))) = true := by kernel_rfl
theorem k20 : ((Rows.neighboursRowsRow.ifacesOut == Try.f4.resultTypes.toList.any (Try.prog.ifacesRec ·))) = true := by kernel_rfl
theorem k21 : ((Rows.neighboursRowsRow.loopsOut == Try.f4.resultTypes.toList.any (Try.prog.loopsFrom ·))) = true := by kernel_rfl
theorem k22 : ((Rows.neighboursRowsRow.plainKeys == Try.prog.plainKeys)) = true := by kernel_rfl
theorem k23 : (Rows.neighboursRowsRow.shortTexts.isNone) = true := by kernel_rfl
theorem k26 : ((Rows.neighboursRowsRow.lifted == Try.prog.liftsFinal)) = true := by kernel_rfl
theorem k27 : ((Try.prog.make == some Rows.neighboursRowsRow.make)) = true := by kernel_rfl
theorem k28 : ((Rows.neighboursRowsRow.kinds == (if Rows.neighboursRowsRow.domain.isEmpty then [] else Try.f4.params.toList.map fun t => match Try.prog.underlying t with | some (.int k) => some k | _ => none))) = true := by kernel_rfl
theorem k29 : ((Rows.neighboursRowsRow.pinned == Rows.neighboursRowsRow.pinnedBy)) = true := by kernel_rfl
theorem k30 : ((Rows.neighboursRowsRow.veiled == (Try.f4.params.toList ++ Rows.neighboursRowsSpec.plain.varTypes Try.prog ++ Try.f4.resultTypes.toList).any (Try.prog.veiledRec ·))) = true := by kernel_rfl
theorem k31 : (Rows.neighboursRowsRow.veiledFits Try.prog Try.f4.params.toList (Try.f4.params.toList ++ Rows.neighboursRowsSpec.plain.varTypes Try.prog ++ Try.f4.resultTypes.toList)) = true := by kernel_rfl
theorem andT {a b : Bool} (ha : a = true) (hb : b = true) : (a && b) = true := by rw [ha, hb]; rfl
theorem laidOut_ : laidOutB Try.prog = true := by kernel_rfl
theorem mapsRowed_ : mapsRowed Try.prog = true := by kernel_rfl
theorem stopsHeard_ : Try.prog.stopsHeard = true := by kernel_rfl
theorem mayEnter_ : Try.prog.mayEnter = true := by kernel_rfl
set_option maxRecDepth 100000 in
theorem closed : joinedFacts Try.prog 4 Try.f4 Rows.neighboursRowsSpec Rows.neighboursRowsRow = true := by
 unfold joinedFacts
 exact (andT (andT (andT (andT (andT (andT (andT (andT (andT (andT (andT (andT (andT (andT (andT (andT (andT (andT (andT (andT (andT (andT (andT (andT (andT (andT (andT (andT (andT (andT (andT (k0) laidOut_) mapsRowed_) k3) k4) k5) k6) k7) k8) k9) k10) k11) k12) k13) k14) k15) k16) k17) k18) k19) k20) k21) k22) k23) stopsHeard_) mayEnter_) k26) k27) k28) k29) k30) k31)
theorem own : ownKnob Try.prog.godebug = none := by kernel_rfl
set_option maxHeartbeats 8000000 in
set_option maxRecDepth 100000 in
theorem lifted (os : Os) (started : os.Started) (H : Type) (enc : TypeId × Value → H) :
  ReturnsInHanded {} Try.checked os 4 .any (Rows.neighboursRowsSpec.pre6 enc Try.prog Try.f4 Rows.neighboursRowsRow.domain false) (Rows.neighboursRowsSpec.post enc Try.prog Try.f4 false true false false) := by
 refine returnsInHanded_of_change_sized (C := Try.checked) own started (by kernel_rfl) Try.func4
  (ChangeSpec.witness6 (enc := enc) (C := Try.checked) false ⟨#[], #[.int .i64 0, .slice none 0 0], []⟩ 8 (by kernel_rfl) (by kernel_rfl) (by kernel_rfl) (by kernel_rfl)) ?_
 intro W base args ds gs before hval0 hW hcnd hsz0  _
 have hval : ∀ (j : Nat) t v, Try.f4.params[j]? = some t → args[j]? = some v → Value.okWide Try.prog W .any base t v := hval0
 have hW' := hW
 obtain ⟨p, q, hA0, hV, rfl, hfz, hnd⟩ := hW
 have hA : DataW.TrodAll enc Try.prog W 0 (fun _ => true) true Try.f4.params.toList args.toList ds p := hA0
 rw [Try.params4] at hA hval
 obtain ⟨v0, vs0, d0, ds0, p0, q0, hargs, rfl, rfl, h0, r0⟩ := trodAll_cons hA
 obtain ⟨v1, vs1, d1, ds1, p1, q1, rfl, rfl, rfl, h1, r1⟩ := trodAll_cons r0
 obtain ⟨rfl, rfl, rfl⟩ := trodAll_nil r1
 obtain rfl : args = #[v0, v1] := by cases args; simp_all
 obtain ⟨rfl, rfl⟩ := trodVars_none hV
 have k0_ := h0
 have lt0 : ∀ x ∈ p0, x.block < W.heap.size := by obtain ⟨m, hm⟩ := k0_; exact DataW.trod_lt m _ _ _ hm
 obtain ⟨x0, rfl, rfl, rfl, Q0⟩ := open_int Try.underlying3 (hval 0 3 v0 rfl rfl) h0
 have R0 : RV (allB W) PM.nil W (.s (.int .i64 x0)) (.int .i64 x0) := by simp only [RV]
 have k1_ := h1
 have lt1 : ∀ x ∈ p1, x.block < W.heap.size := by obtain ⟨m, hm⟩ := k1_; exact DataW.trod_lt m _ _ _ hm
 obtain ⟨x1, E1, Q1⟩ := opens_arg (s := (.sl (.int .u64))) (opens_sh 20 27 (.sl (.int .u64)) (by kernel_rfl) (by kernel_rfl) (by kernel_rfl)) h1
 obtain ⟨a1, l1, c1, rfl⟩ := okWide_slice Try.underlying27 (hval 1 27 v1 rfl rfl)
 have R1 := argV_one (s := (.sl (.int .u64))) (x := x1) (y := .slice a1 l1 c1) rfl E1
 clear hA0 hval0 hsz0
 have hx := (RVs_cons R0 (RVs_cons R1 RVs_nil))
 refine (law_end (G := noG) (lawNbRows_fact (x0) (x1) (by exact Bit.okW_iff.2 (fun w hw => wf_u64 (Q1.2 w hw)))) (fun _ _ h => by cases h) hx).mono fun e W' ⟨he, bel⟩ => ?_
 subst he
 exact ⟨_, rfl, _, _, _, [], _, [], hW', trodAll_mk1 (shut_bool Try.underlying4 _), (trodAll_cons_mk (Below.trod laidOut_ (by kernel_rfl) (of_decide_eq_true (by kernel_rfl)) k0_ bel lt0) (trodAll_cons_mk (Below.trod laidOut_ (by kernel_rfl) (of_decide_eq_true (by kernel_rfl)) k1_ bel lt1) trodAll_mk0)), rfl, bel.frame _, fun h => by cases h⟩
theorem named_ : Try.prog.funcNamed Rows.neighboursRowsRow.func = some 4 := by kernel_rfl
theorem inst_ : decide (Try.f4.isInstance Try.prog Rows.neighboursRowsRow.origin Rows.neighboursRowsRow.targs) = true := by kernel_rfl
theorem over : Rows.neighboursRowsRow.holds Try.pinned (OpenSpec.ofChange Rows.neighboursRowsSpec) :=
 OpenClaim.holds_of_wide 4 Try.f4 rfl rfl rfl rfl rfl rfl rfl ⟨rfl, rfl, rfl, rfl, rfl⟩ rfl rfl rfl rfl rfl named_ Try.func4 closed
  (of_decide_eq_true inst_) (by unfold Func.isWrapper; first | (rw [if_pos (by decide +kernel)]; kernel_rfl) | (rw [if_neg (by decide +kernel)]; exact ⟨rfl, rfl⟩))
  (fun os started H enc _ => lifted os started H enc)
theorem proved : Rows.NeighboursRowsSaid := over
end Go.Proofs.Ytleagoeimkcekaa.neighboursRows
namespace Go.Proofs.Ytleagoeimkcekaa
/-- The row, under a short name, for the claim. -/
theorem neighboursRows_holds : Rows.NeighboursRowsSaid := neighboursRows.proved
end Go.Proofs.Ytleagoeimkcekaa
