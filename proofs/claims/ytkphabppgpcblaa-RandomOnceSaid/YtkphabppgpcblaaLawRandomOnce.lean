/- The law RandomOnce: for every input it answers true, and its input reads behind the call as it read ahead of it. -/
import Derived.Test.YtkphabppgpcblaaRows
import Derived.Test.YtkphabppgpcblaaFew
import Derived.WalkKit
import Derived.ProofKit
import Derived.OpenShut
import Derived.ShutString
import Derived.ChangeOld
import Derived.Below
import Derived.SizedLaws
import Derived.JoinedOf
namespace Go.Proofs.Ytkphabppgpcblaa.randomOnce
open Go.ChangeShapes Go.WideShapes Go.ChangeAt Go.RowKit Go.PM
open Go.ChangeMaps (open_string shut_string)
open Go.Proofs.Ytkphabppgpcblaa
set_option linter.unusedVariables false
theorem k0 : (Rows.randomOnceRow.wf (OpenSpec.ofChange Rows.randomOnceSpec)) = true := by kernel_rfl
theorem k3 : (Try.f7.params.all (Try.prog.readableRec ·)) = true := by kernel_rfl
theorem k4 : (namedTie Try.prog Rows.randomOnceRow.named Rows.randomOnceSpec.vars) = true := by kernel_rfl
theorem k5 : ((Rows.randomOnceRow.stops == [])) = true := by kernel_rfl
theorem k6 : ((Try.prog.stops == [])) = true := by kernel_rfl
theorem k7 : ((Rows.randomOnceRow.knobs == [])) = true := by kernel_rfl
theorem k8 : ((Try.prog.stopKnobs == [])) = true := by kernel_rfl
theorem k9 : ((Rows.randomOnceRow.inPlace == Try.prog.inPlace 7)) = true := by kernel_rfl
theorem k10 : ((Rows.randomOnceRow.unfollowed == Try.prog.unfollowed 7)) = true := by kernel_rfl
theorem k11 : ((Rows.randomOnceRow.recurses == Try.prog.recurses 7)) = true := by kernel_rfl
theorem k12 : ((Rows.randomOnceRow.named == Try.prog.varsNamed 7)) = true := by kernel_rfl
theorem k13 : ((Rows.randomOnceRow.maps == (Try.f7.params.toList ++ Rows.randomOnceSpec.plain.varTypes Try.prog).any (Try.prog.mapsRec ·))) = true := by kernel_rfl
theorem k14 : ((Rows.randomOnceRow.ifaces == (Try.f7.params.toList ++ Rows.randomOnceSpec.plain.varTypes Try.prog).any (Try.prog.ifacesRec ·))) = true := by kernel_rfl
theorem k15 : ((Rows.randomOnceRow.mapsOut == Try.prog.mapsAmong Try.f7.resultTypes.toList)) = true := by kernel_rfl
theorem k16 : ((Rows.randomOnceRow.loops == (Try.f7.params.toList ++ Rows.randomOnceSpec.plain.varTypes Try.prog).any (Try.prog.loopsFrom ·))) = true := by kernel_rfl
theorem k17 : ((Rows.randomOnceRow.wideKeys == (Try.f7.params.toList ++ Rows.randomOnceSpec.plain.varTypes Try.prog ++ Try.f7.resultTypes.toList).any (Try.prog.wideKeysFrom ·))) = true := by kernel_rfl
theorem k18 : (Rows.randomOnceSpec.vars.all (Try.prog.varReadable ·)) = true := by kernel_rfl
theorem k19 : (Try.f7.resultTypes.all (fun t => Try.prog.readableRec t && decide (t < Try.prog.types.size))) = true := by kernel_rfl
theorem k20 : ((Rows.randomOnceRow.ifacesOut == Try.f7.resultTypes.toList.any (Try.prog.ifacesRec ·))) = true := by kernel_rfl
theorem k21 : ((Rows.randomOnceRow.loopsOut == Try.f7.resultTypes.toList.any (Try.prog.loopsFrom ·))) = true := by kernel_rfl
theorem k22 : ((Rows.randomOnceRow.plainKeys == Try.prog.plainKeys)) = true := by kernel_rfl
theorem k23 : (Rows.randomOnceRow.shortTexts.isNone) = true := by kernel_rfl
theorem k26 : ((Rows.randomOnceRow.lifted == Try.prog.liftsFinal)) = true := by kernel_rfl
theorem k27 : ((Try.prog.make == some Rows.randomOnceRow.make)) = true := by kernel_rfl
theorem k28 : ((Rows.randomOnceRow.kinds == (if Rows.randomOnceRow.domain.isEmpty then [] else Try.f7.params.toList.map fun t => match Try.prog.underlying t with | some (.int k) => some k | _ => none))) = true := by kernel_rfl
theorem k29 : ((Rows.randomOnceRow.pinned == Rows.randomOnceRow.pinnedBy)) = true := by kernel_rfl
theorem k30 : ((Rows.randomOnceRow.veiled == (Try.f7.params.toList ++ Rows.randomOnceSpec.plain.varTypes Try.prog ++ Try.f7.resultTypes.toList).any (Try.prog.veiledRec ·))) = true := by kernel_rfl
theorem k31 : (Rows.randomOnceRow.veiledFits Try.prog Try.f7.params.toList (Try.f7.params.toList ++ Rows.randomOnceSpec.plain.varTypes Try.prog ++ Try.f7.resultTypes.toList)) = true := by kernel_rfl
theorem andT {a b : Bool} (ha : a = true) (hb : b = true) : (a && b) = true := by rw [ha, hb]; rfl
theorem laidOut_ : laidOutB Try.prog = true := by kernel_rfl
theorem mapsRowed_ : mapsRowed Try.prog = true := by kernel_rfl
theorem stopsHeard_ : Try.prog.stopsHeard = true := by kernel_rfl
theorem mayEnter_ : Try.prog.mayEnter = true := by kernel_rfl
set_option maxRecDepth 100000 in
theorem closed : joinedFacts Try.prog 7 Try.f7 Rows.randomOnceSpec Rows.randomOnceRow = true := by
 unfold joinedFacts
 exact (andT (andT (andT (andT (andT (andT (andT (andT (andT (andT (andT (andT (andT (andT (andT (andT (andT (andT (andT (andT (andT (andT (andT (andT (andT (andT (andT (andT (andT (andT (andT (k0) laidOut_) mapsRowed_) k3) k4) k5) k6) k7) k8) k9) k10) k11) k12) k13) k14) k15) k16) k17) k18) k19) k20) k21) k22) k23) stopsHeard_) mayEnter_) k26) k27) k28) k29) k30) k31)
theorem own : ownKnob Try.prog.godebug = none := by kernel_rfl
set_option maxHeartbeats 8000000 in
set_option maxRecDepth 100000 in
theorem lifted (os : Os) (started : os.Started) (H : Type) (enc : TypeId × Value → H) :
  ReturnsInHanded {} Try.checked os 7 .any (Rows.randomOnceSpec.pre6 enc Try.prog Try.f7 Rows.randomOnceRow.domain false) (Rows.randomOnceSpec.post enc Try.prog Try.f7 false true false false) := by
 refine returnsInHanded_of_change_sized (C := Try.checked) own started (by kernel_rfl) Try.func7
  (ChangeSpec.witness6 (enc := enc) (C := Try.checked) false ⟨#[], #[.int .u64 0, .int .i64 0, .int .i64 0], []⟩ 8 (by kernel_rfl) (by kernel_rfl) (by kernel_rfl) (by kernel_rfl)) ?_
 intro W base args ds gs before hval0 hW hcnd hsz0  _
 have hval : ∀ (j : Nat) t v, Try.f7.params[j]? = some t → args[j]? = some v → Value.okWide Try.prog W .any base t v := hval0
 have hW' := hW
 obtain ⟨p, q, hA0, hV, rfl, hfz, hnd⟩ := hW
 have hA : DataW.TrodAll enc Try.prog W 0 (fun _ => true) true Try.f7.params.toList args.toList ds p := hA0
 rw [Try.params7] at hA hval
 obtain ⟨v0, vs0, d0, ds0, p0, q0, hargs, rfl, rfl, h0, r0⟩ := trodAll_cons hA
 obtain ⟨v1, vs1, d1, ds1, p1, q1, rfl, rfl, rfl, h1, r1⟩ := trodAll_cons r0
 obtain ⟨v2, vs2, d2, ds2, p2, q2, rfl, rfl, rfl, h2, r2⟩ := trodAll_cons r1
 obtain ⟨rfl, rfl, rfl⟩ := trodAll_nil r2
 obtain rfl : args = #[v0, v1, v2] := by cases args; simp_all
 obtain ⟨rfl, rfl⟩ := trodVars_none hV
 have k0_ := h0
 have lt0 : ∀ x ∈ p0, x.block < W.heap.size := by obtain ⟨m, hm⟩ := k0_; exact DataW.trod_lt m _ _ _ hm
 obtain ⟨x0, rfl, rfl, rfl, Q0⟩ := open_int Try.underlying22 (hval 0 22 v0 rfl rfl) h0
 have R0 : RV (allB W) PM.nil W (.s (.int .u64 x0)) (.int .u64 x0) := by simp only [RV]
 have k1_ := h1
 have lt1 : ∀ x ∈ p1, x.block < W.heap.size := by obtain ⟨m, hm⟩ := k1_; exact DataW.trod_lt m _ _ _ hm
 obtain ⟨x1, rfl, rfl, rfl, Q1⟩ := open_int Try.underlying3 (hval 1 3 v1 rfl rfl) h1
 have R1 : RV (allB W) PM.nil W (.s (.int .i64 x1)) (.int .i64 x1) := by simp only [RV]
 have k2_ := h2
 have lt2 : ∀ x ∈ p2, x.block < W.heap.size := by obtain ⟨m, hm⟩ := k2_; exact DataW.trod_lt m _ _ _ hm
 obtain ⟨x2, rfl, rfl, rfl, Q2⟩ := open_int Try.underlying3 (hval 2 3 v2 rfl rfl) h2
 have R2 : RV (allB W) PM.nil W (.s (.int .i64 x2)) (.int .i64 x2) := by simp only [RV]
 clear hA0 hval0 hsz0
 have hx := (RVs_cons R0 (RVs_cons R1 (RVs_cons R2 RVs_nil)))
 refine (law_end (G := noG) (lawOnce_fact (x0) (x1) (x2) (by have a := wf_u64 Q0; have b := wf_i64 Q1; have c := wf_i64 Q2; simp; omega)) (fun _ _ h => by cases h) hx).mono fun e W' ⟨he, bel⟩ => ?_
 subst he
 exact ⟨_, rfl, _, _, _, [], _, [], hW', trodAll_mk1 (shut_bool Try.underlying4 _), (trodAll_cons_mk (Below.trod laidOut_ (by kernel_rfl) (of_decide_eq_true (by kernel_rfl)) k0_ bel lt0) (trodAll_cons_mk (Below.trod laidOut_ (by kernel_rfl) (of_decide_eq_true (by kernel_rfl)) k1_ bel lt1) (trodAll_cons_mk (Below.trod laidOut_ (by kernel_rfl) (of_decide_eq_true (by kernel_rfl)) k2_ bel lt2) trodAll_mk0))), rfl, bel.frame _, fun h => by cases h⟩
theorem named_ : Try.prog.funcNamed Rows.randomOnceRow.func = some 7 := by kernel_rfl
theorem inst_ : decide (Try.f7.isInstance Try.prog Rows.randomOnceRow.origin Rows.randomOnceRow.targs) = true := by kernel_rfl
theorem over : Rows.randomOnceRow.holds Try.pinned (OpenSpec.ofChange Rows.randomOnceSpec) :=
 OpenClaim.holds_of_wide 7 Try.f7 rfl rfl rfl rfl rfl rfl rfl ⟨rfl, rfl, rfl, rfl, rfl⟩ rfl rfl rfl rfl rfl named_ Try.func7 closed
  (of_decide_eq_true inst_) (by unfold Func.isWrapper; first | (rw [if_pos (by decide +kernel)]; kernel_rfl) | (rw [if_neg (by decide +kernel)]; exact ⟨rfl, rfl⟩))
  (fun os started H enc _ => lifted os started H enc)
theorem proved : Rows.RandomOnceSaid := over
end Go.Proofs.Ytkphabppgpcblaa.randomOnce
namespace Go.Proofs.Ytkphabppgpcblaa
/-- The row, under a short name, for the claim. -/
theorem randomOnce_holds : Rows.RandomOnceSaid := randomOnce.proved
end Go.Proofs.Ytkphabppgpcblaa
