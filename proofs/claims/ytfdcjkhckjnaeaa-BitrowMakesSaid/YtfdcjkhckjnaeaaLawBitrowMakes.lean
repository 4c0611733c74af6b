/- The law BitrowMakes: for every input it answers true, and its input reads behind the call as it read ahead of it. -/
import Derived.Test.YtfdcjkhckjnaeaaRows
import Derived.Test.YtfdcjkhckjnaeaaPAx4
import Derived.Test.YtfdcjkhckjnaeaaPureBitrowMakes
import Derived.Test.YtfdcjkhckjnaeaaPAxO
import Derived.Test.YtfdcjkhckjnaeaaVOpens
import Derived.Test.YtfdcjkhckjnaeaaVFacts
import Derived.WalkKit
import Derived.ProofKit
import Derived.OpenShut
import Derived.ShutString
import Derived.ChangeOld
import Derived.Below
import Derived.SizedLaws
namespace Go.Proofs.Ytfdcjkhckjnaeaa.bitrowMakes
open Go.ChangeShapes Go.WideShapes Go.ChangeAt Go.RowKit
open Go.ChangeMaps (open_string shut_string)
open Go.Proofs.Ytfdcjkhckjnaeaa.PA Go.Proofs.YtfdcjkhckjnaeaaW.PrintWords Go.Proofs.YtfdcjkhckjnaeaaW.PrintLast Go.Proofs.Ytfdcjkhckjnaeaa
set_option linter.unusedVariables false
theorem own : ownKnob Try.prog.godebug = none := by kernel_rfl
theorem laidOut : laidOutB Try.prog = true := Facts.laidOut
set_option maxHeartbeats 8000000 in
set_option maxRecDepth 100000 in
theorem lifted (os : Os) (started : os.Started) (H : Type) (enc : TypeId × Value → H) :
    ReturnsInHanded {} Try.checked os 3 .any (Rows.bitrowMakesSpec.pre6 enc Try.prog Try.f3 Rows.bitrowMakesRow.domain false) (Rows.bitrowMakesSpec.post enc Try.prog Try.f3 false true false false) := by
  refine returnsInHanded_of_change_sized (C := Try.checked) own started (by kernel_rfl) Try.func3
    (ChangeSpec.witness6 (enc := enc) (C := Try.checked) false ⟨#[], #[.int .i64 0, .slice none 0 0, .agg #[.int .i64 0, .slice none 0 0], .agg #[.int .i64 0, .slice none 0 0]], []⟩ 8 (by kernel_rfl) (by kernel_rfl) (by kernel_rfl) (by kernel_rfl)) ?_
  intro W base args ds gs before hval0 hW hcnd hsz0 _
  have hval : ∀ (j : Nat) t v, Try.f3.params[j]? = some t → args[j]? = some v → Value.okWide Try.prog W .any base t v := hval0
  have hW' := hW
  obtain ⟨p, q, hA0, hV, rfl, hfz, hnd⟩ := hW
  have hA : DataW.TrodAll enc Try.prog W 0 (fun _ => true) true Try.f3.params.toList args.toList ds p := hA0
  rw [Try.params3] at hA hval
  obtain ⟨v0, vs0, d0, ds0, p0, q0, hargs, rfl, rfl, h0, r0⟩ := trodAll_cons hA
  obtain ⟨v1, vs1, d1, ds1, p1, q1, rfl, rfl, rfl, h1, r1⟩ := trodAll_cons r0
  obtain ⟨v2, vs2, d2, ds2, p2, q2, rfl, rfl, rfl, h2, r2⟩ := trodAll_cons r1
  obtain ⟨v3, vs3, d3, ds3, p3, q3, rfl, rfl, rfl, h3, r3⟩ := trodAll_cons r2
  obtain ⟨rfl, rfl, rfl⟩ := trodAll_nil r3
  obtain rfl : args = #[v0, v1, v2, v3] := by cases args; simp_all
  obtain ⟨rfl, rfl⟩ := trodVars_none hV
  obtain ⟨x0, rfl, rfl, rfl, Q0⟩ := open_int Try.underlying3 (hval 0 3 v0 rfl rfl) h0
  have k1 := h1
  have lt1 : ∀ x ∈ p1, x.block < W.heap.size := by obtain ⟨m, hm⟩ := k1; exact DataW.trod_lt m _ _ _ hm
  obtain ⟨x1, K1, Q1⟩ := Opens.Opens.arg (P := Try.prog) (W := W) (Opens.opens_slice Try.underlying22 cells3 (Opens.opens_int Try.underlying3)) h1
  obtain ⟨a1, len1, cap1, rfl⟩ := okWide_slice Try.underlying22 (hval 1 22 v1 rfl rfl)
  obtain ⟨A1, c1, e1, hl1, hr1⟩ := K1
  have g1 : a1 = A1 ∧ len1 = x1.length ∧ cap1 = c1 := by simpa [Value.cells] using e1
  obtain ⟨s1, rfl, t1⟩ := g1
  obtain rfl := s1.symm
  obtain rfl := t1.symm
  have k2 := h2
  have lt2 : ∀ x ∈ p2, x.block < W.heap.size := by obtain ⟨m, hm⟩ := k2; exact DataW.trod_lt m _ _ _ hm
  obtain ⟨x2, K2, Q2⟩ := Opens.Opens.arg (P := Try.prog) (W := W) opens25 h2
  obtain ⟨cs2, rfl, hcs2⟩ := okWide_struct Try.underlying25 (hval 2 25 v2 rfl rfl)
  obtain ⟨A2_1, c2_1, e2, hl2_1, hr2_1⟩ := k25_open K2
  obtain rfl : cs2 = #[.int .i64 x2.f0, .slice A2_1 x2.f1.length c2_1] := by rw [← Array.toList_inj]; simpa [Value.cells] using e2
  have k3 := h3
  have lt3 : ∀ x ∈ p3, x.block < W.heap.size := by obtain ⟨m, hm⟩ := k3; exact DataW.trod_lt m _ _ _ hm
  obtain ⟨x3, K3, Q3⟩ := Opens.Opens.arg (P := Try.prog) (W := W) opens25 h3
  obtain ⟨cs3, rfl, hcs3⟩ := okWide_struct Try.underlying25 (hval 3 25 v3 rfl rfl)
  obtain ⟨A3_1, c3_1, e3, hl3_1, hr3_1⟩ := k25_open K3
  obtain rfl : cs3 = #[.int .i64 x3.f0, .slice A3_1 x3.f1.length c3_1] := by rw [← Array.toList_inj]; simpa [Value.cells] using e3
  clear hA0 hval0 hsz0
  obtain ⟨k, hk⟩ := Pure.BitrowMakes x0 Q0 x1 Q1 x2 Q2 x3 Q3
  refine (downpourlaw01_BitrowMakes.calls k x0 A1 c1 x1 x2.f0 A2_1 c2_1 x2.f1 x3.f0 A3_1 c3_1 x3.f1 true W hr1 hl1 hr2_1 hl2_1 hr3_1 hl3_1 hk).mono fun e W' ⟨he, bel⟩ => ?_
  subst he
  exact ⟨_, rfl, _, _, _, [], _, [], hW', trodAll_mk1 (shut_bool Try.underlying4 _), (trodAll_cons_mk (shut_int Try.underlying3 Q0) (trodAll_cons_mk (Below.trod laidOut (by kernel_rfl) (of_decide_eq_true (by kernel_rfl)) k1 bel lt1) (trodAll_cons_mk (Below.trod laidOut (by kernel_rfl) (of_decide_eq_true (by kernel_rfl)) k2 bel lt2) (trodAll_cons_mk (Below.trod laidOut (by kernel_rfl) (of_decide_eq_true (by kernel_rfl)) k3 bel lt3) trodAll_mk0)))), rfl, bel.frame _, fun h => by cases h⟩
theorem k0 : (Rows.bitrowMakesRow.wf (OpenSpec.ofChange Rows.bitrowMakesSpec)) = true := by kernel_rfl
theorem k3 : (Try.f3.params.all (Try.prog.readableRec ·)) = true := by kernel_rfl
theorem k4 : (namedTie Try.prog Rows.bitrowMakesRow.named Rows.bitrowMakesSpec.vars) = true := by kernel_rfl
theorem k5 : ((Rows.bitrowMakesRow.stops == [])) = true := by kernel_rfl
theorem k6 : ((Try.prog.stops == [])) = true := by kernel_rfl
theorem k7 : ((Rows.bitrowMakesRow.knobs == [])) = true := by kernel_rfl
theorem k8 : ((Try.prog.stopKnobs == [])) = true := by kernel_rfl
theorem k9 : ((Rows.bitrowMakesRow.inPlace == Try.prog.inPlace 3)) = true := by kernel_rfl
theorem k10 : ((Rows.bitrowMakesRow.unfollowed == Try.prog.unfollowed 3)) = true := by kernel_rfl
theorem k11 : ((Rows.bitrowMakesRow.recurses == Try.prog.recurses 3)) = true := by kernel_rfl
theorem k12 : ((Rows.bitrowMakesRow.named == Try.prog.varsNamed 3)) = true := by kernel_rfl
theorem k13 : ((Rows.bitrowMakesRow.maps == (Try.f3.params.toList ++ Rows.bitrowMakesSpec.plain.varTypes Try.prog).any (Try.prog.mapsRec ·))) = true := by kernel_rfl
theorem k14 : ((Rows.bitrowMakesRow.ifaces == (Try.f3.params.toList ++ Rows.bitrowMakesSpec.plain.varTypes Try.prog).any (Try.prog.ifacesRec ·))) = true := by kernel_rfl
theorem k15 : ((Rows.bitrowMakesRow.mapsOut == Try.prog.mapsAmong Try.f3.resultTypes.toList)) = true := by kernel_rfl
theorem k16 : ((Rows.bitrowMakesRow.loops == (Try.f3.params.toList ++ Rows.bitrowMakesSpec.plain.varTypes Try.prog).any (Try.prog.loopsFrom ·))) = true := by kernel_rfl
theorem k17 : ((Rows.bitrowMakesRow.wideKeys == (Try.f3.params.toList ++ Rows.bitrowMakesSpec.plain.varTypes Try.prog ++ Try.f3.resultTypes.toList).any (Try.prog.wideKeysFrom ·))) = true := by kernel_rfl
theorem k18 : (Rows.bitrowMakesSpec.vars.all (Try.prog.varReadable ·)) = true := by kernel_rfl
theorem k19 : (Try.f3.resultTypes.all (fun t => Try.prog.readableRec t && decide (t < Try.prog.types.size))) = true := by kernel_rfl
theorem k20 : ((Rows.bitrowMakesRow.ifacesOut == Try.f3.resultTypes.toList.any (Try.prog.ifacesRec ·))) = true := by kernel_rfl
theorem k21 : ((Rows.bitrowMakesRow.loopsOut == Try.f3.resultTypes.toList.any (Try.prog.loopsFrom ·))) = true := by kernel_rfl
theorem k22 : ((Rows.bitrowMakesRow.plainKeys == Try.prog.plainKeys)) = true := by kernel_rfl
theorem k23 : (Rows.bitrowMakesRow.shortTexts.isNone) = true := by kernel_rfl
theorem k26 : ((Rows.bitrowMakesRow.lifted == Try.prog.liftsFinal)) = true := by kernel_rfl
theorem k27 : ((Try.prog.make == some Rows.bitrowMakesRow.make)) = true := by kernel_rfl
theorem k28 : ((Rows.bitrowMakesRow.kinds == (if Rows.bitrowMakesRow.domain.isEmpty then [] else Try.f3.params.toList.map fun t => match Try.prog.underlying t with | some (.int k) => some k | _ => none))) = true := by kernel_rfl
theorem k29 : ((Rows.bitrowMakesRow.pinned == Rows.bitrowMakesRow.pinnedBy)) = true := by kernel_rfl
theorem k30 : ((Rows.bitrowMakesRow.veiled == (Try.f3.params.toList ++ Rows.bitrowMakesSpec.plain.varTypes Try.prog ++ Try.f3.resultTypes.toList).any (Try.prog.veiledRec ·))) = true := by kernel_rfl
theorem k31 : (Rows.bitrowMakesRow.veiledFits Try.prog Try.f3.params.toList (Try.f3.params.toList ++ Rows.bitrowMakesSpec.plain.varTypes Try.prog ++ Try.f3.resultTypes.toList)) = true := by kernel_rfl
set_option maxRecDepth 100000 in
theorem closed : joinedFacts Try.prog 3 Try.f3 Rows.bitrowMakesSpec Rows.bitrowMakesRow = true := by
  unfold joinedFacts
  exact Facts.andT (Facts.andT (Facts.andT (Facts.andT (Facts.andT (Facts.andT (Facts.andT (Facts.andT (Facts.andT (Facts.andT (Facts.andT (Facts.andT (Facts.andT (Facts.andT (Facts.andT (Facts.andT (Facts.andT (Facts.andT (Facts.andT (Facts.andT (Facts.andT (Facts.andT (Facts.andT (Facts.andT (Facts.andT (Facts.andT (Facts.andT (Facts.andT (Facts.andT (Facts.andT (Facts.andT (k0) Facts.laidOut) Facts.mapsRowed) k3) k4) k5) k6) k7) k8) k9) k10) k11) k12) k13) k14) k15) k16) k17) k18) k19) k20) k21) k22) k23) Facts.stopsHeard) Facts.mayEnter) k26) k27) k28) k29) k30) k31
theorem named_ : Try.prog.funcNamed Rows.bitrowMakesRow.func = some 3 := by kernel_rfl
theorem inst_ : decide (Try.f3.isInstance Try.prog Rows.bitrowMakesRow.origin Rows.bitrowMakesRow.targs) = true := by kernel_rfl
theorem over : Rows.bitrowMakesRow.holds Try.pinned (OpenSpec.ofChange Rows.bitrowMakesSpec) :=
  OpenClaim.holds_of_wide 3 Try.f3 rfl rfl rfl rfl rfl rfl rfl ⟨rfl, rfl, rfl, rfl, rfl⟩ rfl rfl rfl rfl rfl named_ Try.func3 closed
    (of_decide_eq_true inst_) (by unfold Func.isWrapper; first | (rw [if_pos (by decide +kernel)]; kernel_rfl) | (rw [if_neg (by decide +kernel)]; exact ⟨rfl, rfl⟩))
    (fun os started H enc _ => lifted os started H enc)
theorem proved : Rows.BitrowMakesSaid := over
#print axioms proved
end Go.Proofs.Ytfdcjkhckjnaeaa.bitrowMakes
namespace Go.Proofs.Ytfdcjkhckjnaeaa
/-- The row, under a short name, for the claim. -/
theorem bitrowMakes_holds : Rows.BitrowMakesSaid := bitrowMakes.proved
end Go.Proofs.Ytfdcjkhckjnaeaa
