/- A call of a function value that has values bound ahead of its arguments (a method value). -/
import Derived.Test.YtfcedhejbnoinaaDoorVFnv
namespace Go.Proofs.YtfcedhejbnoinaaDoorW.PrintLast
open Go.RowKit Go.Proofs.YtfcedhejbnoinaaDoorW.PrintWords
variable {P : Program} {ops : Array Oper} {Q : Exit → Act → World → Prop}

theorem enterTB_ {oi : Oper} {a : Act} {w : World} {f : FuncId} {fn : Func} {as : Array Operand} {ts : Array TypeId} {t : Tmp} {fs lb args0 args : Array Value} (hf : P.funcs[f]? = some fn) (hname : (fn.name == "runtime.NumGoroutine") = false) (hb : fn.body.isSome = true)
    (hop : oi.op = .call { callee := .value (.tmp t), args := as, argTypes := ts }) (hv : a.eval (.tmp t) = .func (.func f) fs lb) (hargs : as.map a.eval = args0) (hall : fs ++ args0 ++ lb = args) : (execOp a.eval oi).run P w = .ok (.enter f args) w := by
  have he := enters_ hf hname hb args w
  unfold execOp
  simp [hop, resolve, Deferred.ofValue, invoke, hv, hargs]
  rw [← Array.append_assoc, hall, he]
theorem goesTB_ {oi : Oper} {N : Option Tmp} {a : Act} {w : World} {K : Act → World → Prop} {f : FuncId} {fn : Func} {as : Array Operand} {ts : Array TypeId} (t : Tmp) (hf : P.funcs[f]? = some fn) (hname : (fn.name == "runtime.NumGoroutine") = false) (hb : fn.body.isSome = true) (fs args0 lb args : Array Value)
    (hw : Region.wanted oi (yielded ops a.tmps) = true) (hN : oi.dst = N) (hop : oi.op = .call { callee := .value (.tmp t), args := as, argTypes := ts }) (hv : a.eval (.tmp t) = .func (.func f) fs lb) (hargs : as.map a.eval = args0) (hall : fs ++ args0 ++ lb = args)
    (h : Calls P f args w fun e w' => ∃ v, e = .returned v ∧ K (a.put N v) w') : if Region.wanted oi (yielded ops a.tmps) = true then Oper.wp P oi a w K Q else K (a.put N undef) w :=
  call_ f args hw hN (enterTB_ hf hname hb hop hv hargs hall) h
theorem goesLTB_ {rest : List Oper} {oi : Oper} {a : Act} {w : World} (t : Tmp) (N : Option Tmp) (hd : oi.dst = N) (hg : oi.guard = none) {f : FuncId} {fn : Func} {as : Array Operand} {ts : Array TypeId} (hf : P.funcs[f]? = some fn) (hname : (fn.name == "runtime.NumGoroutine") = false) (hb : fn.body.isSome = true) (fs args0 lb args : Array Value)
    (hop : oi.op = .call { callee := .value (.tmp t), args := as, argTypes := ts }) (hv : a.eval (.tmp t) = .func (.func f) fs lb) (hargs : as.map a.eval = args0) (hall : fs ++ args0 ++ lb = args)
    (h : Calls P f args w fun e w' => ∃ v, e = .returned v ∧ wpList P ops Q rest (a.put N v) w') : wpList P ops Q (oi :: rest) a w := by
  refine wpList_plain hg fun K hK => ?_
  have hrun := enterTB_ (w := w) hf hname hb hop hv hargs hall
  unfold Oper.wp
  rw [hrun, Oper.upon_enter]
  refine h.mono fun e w'' hh => ?_
  obtain ⟨v, rfl, hk⟩ := hh
  subst hd
  exact hK _ _ hk
end Go.Proofs.YtfcedhejbnoinaaDoorW.PrintLast
