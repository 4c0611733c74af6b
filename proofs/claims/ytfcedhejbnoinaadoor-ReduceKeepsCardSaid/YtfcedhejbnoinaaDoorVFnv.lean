/- A call of a function value that is held in a slot: as the print's own words for a call of a named function. -/
import Derived.Test.YtfcedhejbnoinaaDoorWLast
import Derived.Test.YtfcedhejbnoinaaDoorWMore
namespace Go.Proofs.YtfcedhejbnoinaaDoorW.PrintLast
open Go.RowKit Go.Proofs.YtfcedhejbnoinaaDoorW.PrintWords
variable {P : Program} {ops : Array Oper} {Q : Exit → Act → World → Prop}

theorem enterT_ {oi : Oper} {a : Act} {w : World} {f : FuncId} {fn : Func} {as : Array Operand} {ts : Array TypeId} {t : Tmp} {lb args0 args : Array Value} (hf : P.funcs[f]? = some fn) (hname : (fn.name == "runtime.NumGoroutine") = false) (hb : fn.body.isSome = true)
    (hop : oi.op = .call { callee := .value (.tmp t), args := as, argTypes := ts }) (hv : a.eval (.tmp t) = .func (.func f) #[] lb) (hargs : as.map a.eval = args0) (hall : args0 ++ lb = args) : (execOp a.eval oi).run P w = .ok (.enter f args) w := by
  have he := enters_ hf hname hb args w
  unfold execOp
  simp [hop, resolve, Deferred.ofValue, invoke, hv, hargs, hall, he]
/-- The operation is a call by this slot. -/
theorem gate_calleeT {rest : List Oper} {o : Oper} {a : Act} {W : World} {t : Tmp} {as : Array Operand} {ts : Array TypeId} (_ho : o.op = .call { callee := .value (.tmp t), args := as, argTypes := ts }) (h : wpList P ops Q (o :: rest) a W) : wpList P ops Q (o :: rest) a W := h
theorem goesT_ {oi : Oper} {N : Option Tmp} {a : Act} {w : World} {K : Act → World → Prop} {f : FuncId} {fn : Func} {as : Array Operand} {ts : Array TypeId} (t : Tmp) (hf : P.funcs[f]? = some fn) (hname : (fn.name == "runtime.NumGoroutine") = false) (hb : fn.body.isSome = true) (args0 lb args : Array Value)
    (hw : Region.wanted oi (yielded ops a.tmps) = true) (hN : oi.dst = N) (hop : oi.op = .call { callee := .value (.tmp t), args := as, argTypes := ts }) (hv : a.eval (.tmp t) = .func (.func f) #[] lb) (hargs : as.map a.eval = args0) (hall : args0 ++ lb = args)
    (h : Calls P f args w fun e w' => ∃ v, e = .returned v ∧ K (a.put N v) w') : if Region.wanted oi (yielded ops a.tmps) = true then Oper.wp P oi a w K Q else K (a.put N undef) w :=
  call_ f args hw hN (enterT_ hf hname hb hop hv hargs hall) h
theorem goesLT_ {rest : List Oper} {oi : Oper} {a : Act} {w : World} (t : Tmp) (N : Option Tmp) (hd : oi.dst = N) (hg : oi.guard = none) {f : FuncId} {fn : Func} {as : Array Operand} {ts : Array TypeId} (hf : P.funcs[f]? = some fn) (hname : (fn.name == "runtime.NumGoroutine") = false) (hb : fn.body.isSome = true) (args0 lb args : Array Value)
    (hop : oi.op = .call { callee := .value (.tmp t), args := as, argTypes := ts }) (hv : a.eval (.tmp t) = .func (.func f) #[] lb) (hargs : as.map a.eval = args0) (hall : args0 ++ lb = args)
    (h : Calls P f args w fun e w' => ∃ v, e = .returned v ∧ wpList P ops Q rest (a.put N v) w') : wpList P ops Q (oi :: rest) a w := by
  refine wpList_plain hg fun K hK => ?_
  have hrun := enterT_ (w := w) hf hname hb hop hv hargs hall
  unfold Oper.wp
  rw [hrun, Oper.upon_enter]
  refine h.mono fun e w'' hh => ?_
  obtain ⟨v, rfl, hk⟩ := hh
  subst hd
  exact hK _ _ hk
/-! What holds of an object, read a few steps of the heap later (`squeeze.py` writes these in place of the phrase). -/
theorem pk {P Q : Prop} (h : Aside0 P) (f : P → Q := by intro h_; (with_reducible repeat (first | refine blk_drewN ?_ _ | refine blk_drew ?_ | refine blk_alloc ?_ _)); exact h_) : Q := f h.out
theorem pr {P Q : Prop} (h : Aside0 P) (f : P → Q := by intro h_; (with_reducible repeat (first | apply Kd.R_alloc | apply Kd.R_drewN | apply Kd.R_drew)); exact h_) : Q := f h.out
theorem pv {P Q : Prop} (h : Aside0 P) (f : P → Q := by intro h_; (with_reducible repeat (first | apply Kd.V_alloc | apply Kd.V_drewN | apply Kd.V_drew)); exact h_) : Q := f h.out
theorem bb {w0 w1 w2 : World} {g : Nat} {o : Obj} (h : Aside0 (w0.heap[g]? = some o)) (hb : Below w1.heap.size w1 w2) (f : w0.heap[g]? = some o → w1.heap[g]? = some o := by intro h_; (with_reducible repeat (first | refine blk_drewN ?_ _ | refine blk_drew ?_ | refine blk_alloc ?_ _)); exact h_) : Aside0 (w2.heap[g]? = some o) := ⟨blk_below (f h.out) hb⟩
theorem bl {w0 w1 : World} {g : Nat} {o : Obj} (h : Aside0 (w0.heap[g]? = some o)) (f : w0.heap[g]? = some o → w1.heap[g]? = some o := by intro h_; (with_reducible repeat (first | refine blk_drewN ?_ _ | refine blk_drew ?_ | refine blk_alloc ?_ _)); exact h_) : g < w1.heap.size := blk_lt (f h.out)
theorem pb {P Q : Prop} (h : Aside0 P) (f : P → Q := by intro h_; repeat (first | (with_reducible first | exact h_ | apply below_alloc | apply pw_below_drewN | apply below_drew1 | refine below_set ?_ (Aside0.out (by assumption))) | exact h_)) : Q := f h.out
theorem am {P : Prop} (h : P) : Aside0 P := ⟨h⟩
theorem pn {P Q : Prop} (h : Aside0 P) (f : P → Q := by intro h_; (with_reducible repeat (first | apply Kd.N_alloc | apply Kd.N_drewN | apply Kd.N_drew)); exact h_) : Q := f h.out
theorem run_store_func {P : Program} {w : World} (a : Addr) (m : Mode) : ∀ f b c, (store a (.func f b c) m).run P w = stored P w a (.func f b c) m := fun _ _ _ => run_store P w a _ m rfl
end Go.Proofs.YtfcedhejbnoinaaDoorW.PrintLast
