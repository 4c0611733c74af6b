/- The law BitrowOrder: for every input it answers true, and its input reads behind the call as it read ahead of it. -/
import Derived.Test.YtfdcjkhckjnaeaaRows
import Derived.Test.YtfdcjkhckjnaeaaPAx9
import Derived.Test.YtfdcjkhckjnaeaaPureBitrowOrder
import Derived.Test.YtfdcjkhckjnaeaaPAxO
import Derived.Test.YtfdcjkhckjnaeaaVOpens
import Derived.Test.YtfdcjkhckjnaeaaVFacts
import Derived.WalkKit
import Derived.ProofKit
import Derived.OpenShut
import Derived.ShutString
import Derived.ChangeOld
import Derived.Below
import Derived.SizedLaws
namespace Go.Proofs.Ytfdcjkhckjnaeaa.bitrowOrder
open Go.ChangeShapes Go.WideShapes Go.ChangeAt Go.RowKit
open Go.ChangeMaps (open_string shut_string)
open Go.Proofs.Ytfdcjkhckjnaeaa.PA Go.Proofs.YtfdcjkhckjnaeaaW.PrintWords Go.Proofs.YtfdcjkhckjnaeaaW.PrintLast Go.Proofs.Ytfdcjkhckjnaeaa
set_option linter.unusedVariables false
theorem own : ownKnob Try.prog.godebug = none := by kernel_rfl
theorem laidOut : laidOutB Try.prog = true := Facts.laidOut
set_option maxRecDepth 100000 in
theorem lifted (os : Os) (started : os.Started) (H : Type) (enc : TypeId × Value → H) :
    ReturnsInHanded {} Try.checked os 5 .any (Rows.bitrowOrderSpec.pre6 enc Try.prog Try.f5 Rows.bitrowOrderRow.domain false) (Rows.bitrowOrderSpec.post enc Try.prog Try.f5 false true false false) := by
  refine returnsInHanded_of_change_sized (C := Try.checked) own started (by kernel_rfl) Try.func5
    (ChangeSpec.witness6 (enc := enc) (C := Try.checked) false ⟨#[], #[.agg #[.int .i64 0, .slice none 0 0], .agg #[.int .i64 0, .slice none 0 0], .agg #[.int .i64 0, .slice none 0 0]], []⟩ 8 (by kernel_rfl) (by kernel_rfl) (by kernel_rfl) (by kernel_rfl)) ?_
  intro W base args ds gs before hval0 hW hcnd hsz0 _
  have hval : ∀ (j : Nat) t v, Try.f5.params[j]? = some t → args[j]? = some v → Value.okWide Try.prog W .any base t v := hval0
  have hW' := hW
  obtain ⟨p, q, hA0, hV, rfl, hfz, hnd⟩ := hW
  have hA : DataW.TrodAll enc Try.prog W 0 (fun _ => true) true Try.f5.params.toList args.toList ds p := hA0
  rw [Try.params5] at hA hval
  obtain ⟨v0, vs0, d0, ds0, p0, q0, hargs, rfl, rfl, h0, r0⟩ := trodAll_cons hA
  obtain ⟨v1, vs1, d1, ds1, p1, q1, rfl, rfl, rfl, h1, r1⟩ := trodAll_cons r0
  obtain ⟨v2, vs2, d2, ds2, p2, q2, rfl, rfl, rfl, h2, r2⟩ := trodAll_cons r1
  obtain ⟨rfl, rfl, rfl⟩ := trodAll_nil r2
  obtain rfl : args = #[v0, v1, v2] := by cases args; simp_all
  obtain ⟨rfl, rfl⟩ := trodVars_none hV
  have k0 := h0
  have lt0 : ∀ x ∈ p0, x.block < W.heap.size := by obtain ⟨m, hm⟩ := k0; exact DataW.trod_lt m _ _ _ hm
  obtain ⟨x0, K0, Q0⟩ := Opens.Opens.arg (P := Try.prog) (W := W) opens25 h0
  obtain ⟨cs0, rfl, hcs0⟩ := okWide_struct Try.underlying25 (hval 0 25 v0 rfl rfl)
  obtain ⟨A0_1, c0_1, e0, hl0_1, hr0_1⟩ := k25_open K0
  obtain rfl : cs0 = #[.int .i64 x0.f0, .slice A0_1 x0.f1.length c0_1] := by rw [← Array.toList_inj]; simpa [Value.cells] using e0
  have k1 := h1
  have lt1 : ∀ x ∈ p1, x.block < W.heap.size := by obtain ⟨m, hm⟩ := k1; exact DataW.trod_lt m _ _ _ hm
  obtain ⟨x1, K1, Q1⟩ := Opens.Opens.arg (P := Try.prog) (W := W) opens25 h1
  obtain ⟨cs1, rfl, hcs1⟩ := okWide_struct Try.underlying25 (hval 1 25 v1 rfl rfl)
  obtain ⟨A1_1, c1_1, e1, hl1_1, hr1_1⟩ := k25_open K1
  obtain rfl : cs1 = #[.int .i64 x1.f0, .slice A1_1 x1.f1.length c1_1] := by rw [← Array.toList_inj]; simpa [Value.cells] using e1
  have k2 := h2
  have lt2 : ∀ x ∈ p2, x.block < W.heap.size := by obtain ⟨m, hm⟩ := k2; exact DataW.trod_lt m _ _ _ hm
  obtain ⟨x2, K2, Q2⟩ := Opens.Opens.arg (P := Try.prog) (W := W) opens25 h2
  obtain ⟨cs2, rfl, hcs2⟩ := okWide_struct Try.underlying25 (hval 2 25 v2 rfl rfl)
  obtain ⟨A2_1, c2_1, e2, hl2_1, hr2_1⟩ := k25_open K2
  obtain rfl : cs2 = #[.int .i64 x2.f0, .slice A2_1 x2.f1.length c2_1] := by rw [← Array.toList_inj]; simpa [Value.cells] using e2
  clear hA0 hval0 hsz0
  obtain ⟨k, hk⟩ := Pure.BitrowOrder x0 Q0 x1 Q1 x2 Q2
  refine (downpourlaw01_BitrowOrder.calls k x0.f0 A0_1 c0_1 x0.f1 x1.f0 A1_1 c1_1 x1.f1 x2.f0 A2_1 c2_1 x2.f1 true W hr0_1 hl0_1 hr1_1 hl1_1 hr2_1 hl2_1 hk).mono fun e W' ⟨he, bel⟩ => ?_
  subst he
  exact ⟨_, rfl, _, _, _, [], _, [], hW', trodAll_mk1 (shut_bool Try.underlying4 _), (trodAll_cons_mk (Below.trod laidOut (by kernel_rfl) (of_decide_eq_true (by kernel_rfl)) k0 bel lt0) (trodAll_cons_mk (Below.trod laidOut (by kernel_rfl) (of_decide_eq_true (by kernel_rfl)) k1 bel lt1) (trodAll_cons_mk (Below.trod laidOut (by kernel_rfl) (of_decide_eq_true (by kernel_rfl)) k2 bel lt2) trodAll_mk0))), rfl, bel.frame _, fun h => by cases h⟩
theorem k0 : (Rows.bitrowOrderRow.wf (OpenSpec.ofChange Rows.bitrowOrderSpec)) = true := by kernel_rfl
theorem k3 : (Try.f5.params.all (Try.prog.readableRec ·)) = true := by kernel_rfl
theorem k4 : (namedTie Try.prog Rows.bitrowOrderRow.named Rows.bitrowOrderSpec.vars) = true := by kernel_rfl
theorem k5 : ((Rows.bitrowOrderRow.stops == [])) = true := by kernel_rfl
theorem k6 : ((Try.prog.stops == [])) = true := by kernel_rfl
theorem k7 : ((Rows.bitrowOrderRow.knobs == [])) = true := by kernel_rfl
theorem k8 : ((Try.prog.stopKnobs == [])) = true := by kernel_rfl
theorem k9 : ((Rows.bitrowOrderRow.inPlace == Try.prog.inPlace 5)) = true := by kernel_rfl
theorem k10 : ((Rows.bitrowOrderRow.unfollowed == Try.prog.unfollowed 5)) = true := by kernel_rfl
theorem k11 : ((Rows.bitrowOrderRow.recurses == Try.prog.recurses 5)) = true := by kernel_rfl
theorem k12 : ((Rows.bitrowOrderRow.named == Try.prog.varsNamed 5)) = true := by kernel_rfl
theorem k13 : ((Rows.bitrowOrderRow.maps == (Try.f5.params.toList ++ Rows.bitrowOrderSpec.plain.varTypes Try.prog).any (Try.prog.mapsRec ·))) = true := by kernel_rfl
theorem k14 : ((Rows.bitrowOrderRow.ifaces == (Try.f5.params.toList ++ Rows.bitrowOrderSpec.plain.varTypes Try.prog).any (Try.prog.ifacesRec ·))) = true := by kernel_rfl
theorem k15 : ((Rows.bitrowOrderRow.mapsOut == Try.prog.mapsAmong Try.f5.resultTypes.toList)) = true := by kernel_rfl
theorem k16 : ((Rows.bitrowOrderRow.loops == (Try.f5.params.toList ++ Rows.bitrowOrderSpec.plain.varTypes Try.prog).any (Try.prog.loopsFrom ·))) = true := by kernel_rfl
theorem k17 : ((Rows.bitrowOrderRow.wideKeys == (Try.f5.params.toList ++ Rows.bitrowOrderSpec.plain.varTypes Try.prog ++ Try.f5.resultTypes.toList).any (Try.prog.wideKeysFrom ·))) = true := by kernel_rfl
theorem k18 : (Rows.bitrowOrderSpec.vars.all (Try.prog.varReadable ·)) = true := by kernel_rfl
theorem k19 : (Try.f5.resultTypes.all (fun t => Try.prog.readableRec t && decide (t < Try.prog.types.size))) = true := by kernel_rfl
theorem k20 : ((Rows.bitrowOrderRow.ifacesOut == Try.f5.resultTypes.toList.any (Try.prog.ifacesRec ·))) = true := by kernel_rfl
theorem k21 : ((Rows.bitrowOrderRow.loopsOut == Try.f5.resultTypes.toList.any (Try.prog.loopsFrom ·))) = true := by kernel_rfl
theorem k22 : ((Rows.bitrowOrderRow.plainKeys == Try.prog.plainKeys)) = true := by kernel_rfl
theorem k23 : (Rows.bitrowOrderRow.shortTexts.isNone) = true := by kernel_rfl
theorem k26 : ((Rows.bitrowOrderRow.lifted == Try.prog.liftsFinal)) = true := by kernel_rfl
theorem k27 : ((Try.prog.make == some Rows.bitrowOrderRow.make)) = true := by kernel_rfl
theorem k28 : ((Rows.bitrowOrderRow.kinds == (if Rows.bitrowOrderRow.domain.isEmpty then [] else Try.f5.params.toList.map fun t => match Try.prog.underlying t with | some (.int k) => some k | _ => none))) = true := by kernel_rfl
theorem k29 : ((Rows.bitrowOrderRow.pinned == Rows.bitrowOrderRow.pinnedBy)) = true := by kernel_rfl
theorem k30 : ((Rows.bitrowOrderRow.veiled == (Try.f5.params.toList ++ Rows.bitrowOrderSpec.plain.varTypes Try.prog ++ Try.f5.resultTypes.toList).any (Try.prog.veiledRec ·))) = true := by kernel_rfl
theorem k31 : (Rows.bitrowOrderRow.veiledFits Try.prog Try.f5.params.toList (Try.f5.params.toList ++ Rows.bitrowOrderSpec.plain.varTypes Try.prog ++ Try.f5.resultTypes.toList)) = true := by kernel_rfl
set_option maxRecDepth 100000 in
theorem closed : joinedFacts Try.prog 5 Try.f5 Rows.bitrowOrderSpec Rows.bitrowOrderRow = true := by
  unfold joinedFacts
  exact Facts.andT (Facts.andT (Facts.andT (Facts.andT (Facts.andT (Facts.andT (Facts.andT (Facts.andT (Facts.andT (Facts.andT (Facts.andT (Facts.andT (Facts.andT (Facts.andT (Facts.andT (Facts.andT (Facts.andT (Facts.andT (Facts.andT (Facts.andT (Facts.andT (Facts.andT (Facts.andT (Facts.andT (Facts.andT (Facts.andT (Facts.andT (Facts.andT (Facts.andT (Facts.andT (Facts.andT (k0) Facts.laidOut) Facts.mapsRowed) k3) k4) k5) k6) k7) k8) k9) k10) k11) k12) k13) k14) k15) k16) k17) k18) k19) k20) k21) k22) k23) Facts.stopsHeard) Facts.mayEnter) k26) k27) k28) k29) k30) k31
theorem named_ : Try.prog.funcNamed Rows.bitrowOrderRow.func = some 5 := by kernel_rfl
theorem inst_ : decide (Try.f5.isInstance Try.prog Rows.bitrowOrderRow.origin Rows.bitrowOrderRow.targs) = true := by kernel_rfl
theorem over : Rows.bitrowOrderRow.holds Try.pinned (OpenSpec.ofChange Rows.bitrowOrderSpec) :=
  OpenClaim.holds_of_wide 5 Try.f5 rfl rfl rfl rfl rfl rfl rfl ⟨rfl, rfl, rfl, rfl, rfl⟩ rfl rfl rfl rfl rfl named_ Try.func5 closed
    (of_decide_eq_true inst_) (by unfold Func.isWrapper; first | (rw [if_pos (by decide +kernel)]; kernel_rfl) | (rw [if_neg (by decide +kernel)]; exact ⟨rfl, rfl⟩))
    (fun os started H enc _ => lifted os started H enc)
theorem proved : Rows.BitrowOrderSaid := over
#print axioms proved
end Go.Proofs.Ytfdcjkhckjnaeaa.bitrowOrder
namespace Go.Proofs.Ytfdcjkhckjnaeaa
/-- The row, under a short name, for the claim. -/
theorem bitrowOrder_holds : Rows.BitrowOrderSaid := bitrowOrder.proved
end Go.Proofs.Ytfdcjkhckjnaeaa
