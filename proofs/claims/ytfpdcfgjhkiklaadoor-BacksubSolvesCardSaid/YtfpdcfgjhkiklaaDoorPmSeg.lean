/- Places in code, and what goes on behind them: names for the printed segments. -/
import Derived.Test.YtfpdcfgjhkiklaaDoorPmTop
set_option linter.unusedSimpArgs false
set_option linter.unusedVariables false
set_option autoImplicit false
namespace Go.PM

def bodyOf (P : Program) (f : Nat) : Code := match P.funcs[f]? with
  | some fn => fn.body.getD .skip
  | none => .skip
/-- A part of code: a path of left (0) and right (1). -/
def sub : Code → List Nat → Code
  | c, [] => c
  | .seq a _, 0 :: p => sub a p
  | .seq _ b, _ :: p => sub b p
  | .cond _ a _, 0 :: p => sub a p
  | .cond _ _ b, _ :: p => sub b p
  | .block _ b, _ :: p => sub b p
  | .loop b, _ :: p => sub b p
  | .scope b, _ :: p => sub b p
  | .rangeFunc _ _ a _, 0 :: p => sub a p
  | .rangeFunc _ _ _ b, _ :: p => sub b p
  | c, _ => c

section
variable {R : Type}
/-- What goes on behind a part. -/
def kont (X : Ctx R) : Code → List Nat → Nat → (Ex → St → Option R) → Ex → St → Option R
  | .seq a b, 0 :: p, m, K => kont X a p (Nat.lor (mCode b) m) fun e st => match e with
    | .normal => evC b X m st K
    | e => K e st
  | .seq _ b, _ :: p, m, K => kont X b p m K
  | .cond _ a _, 0 :: p, m, K => kont X a p m K
  | .cond _ _ b, _ :: p, m, K => kont X b p m K
  | .block id b, _ :: p, m, K => kont X b p m fun e st => match e with
    | .exit id' => bif Nat.beq id' id then K .normal st else K (.exit id') st
    | e => K e st
  | .scope b, _ :: p, m, K => kont X b p m fun e st => match e with
    | .goto _ => none
    | e => K e st
  | _, _, _, K => K

/-- Rounds of a loop, its state in order. -/
def lpN (c : Code) (X : Ctx R) (m : Nat) (names : List Nat) (n : Nat) (st : St) (K : Ex → St → Option R) : Option R :=
  loopN (fun st K => evC c X (Nat.lor (mCode c) m) st K) X.own names (fun st => keep X.N m st.tm) n st K
/-- Behind a round. -/
def rdK (c : Code) (X : Ctx R) (m : Nat) (names : List Nat) (n : Nat) (K : Ex → St → Option R) (e : Ex) (st : St) : Option R :=
  match e with
  | .normal => (norm X.own names st).bind fun st => lpN c X m names n st K
  | e => (norm X.own (keep X.N m st.tm) st).bind fun st => K e st
theorem lpN_zero (c : Code) (X : Ctx R) (m : Nat) (names : List Nat) (st : St) (K : Ex → St → Option R) : lpN c X m names 0 st K = none := rfl
theorem lpN_succ (c : Code) (X : Ctx R) (m : Nat) (names : List Nat) (n : Nat) (st : St) (K : Ex → St → Option R) : lpN c X m names (n + 1) st K = evC c X (Nat.lor (mCode c) m) st (rdK c X m names n K) := by
  unfold lpN; rw [loopN_succ]; rfl

/-- A function's context, and that of one that is ranged over; a round's. -/
def fnX (P : Program) (mode : FuncId → Nat) (tbl : Tbl) (n N own : Nat) : Ctx R := ⟨P, tbl, mode, n, N, own, iterN P mode n tbl 4, none⟩
def itX (P : Program) (mode : FuncId → Nat) (tbl : Tbl) (n d N own t : Nat) (h : List V → St → (Bool → St → Option R) → Option R) : Ctx R := ⟨P, tbl, mode, n, N, own, iterN P mode n tbl d, some (t, h)⟩
def rdX (X : Ctx R) (own : Nat) : Ctx R := { X with own := own, yl := none }
def itE (K : St → Option R) (e : Ex) (st : St) : Option R := match e with
  | .normal => K st
  | .ret => K st
  | _ => none
def regOps : Code → Array Oper
  | .region _ ops _ => ops
  | _ => #[]
/-- Behind a value that was handed to a round, within a region. -/
def ylK (X : Ctx R) (c : Code) (i base : Nat) (tr : List Ev) (K : Ex → St → Option R) (b : Bool) (s : St) : Option R :=
  evOps X (regOps c) base ((regOps c).toList.drop (i + 1)) (i + 1) { s with tm := put s.tm (((regOps c)[i]?).bind (·.dst)) (.s (.bool b)) } (⟨i, [], []⟩ :: tr) fun st _ => K .normal st
end
def endK (P : Program) (mode m f : Nat) (e : Ex) (st : St) : Option Out := match P.funcs[f]? with
  | some fn => match e with
    | .normal => tell P mode m fn.results.toList st
    | .ret => tell P mode m fn.results.toList st
    | _ => none
  | none => none
/-- A call, within n rounds of each loop and functions that are ranged over within four. -/
def callN (P : Program) (mode : FuncId → Nat) (tbl : Tbl) (n f : Nat) (args : List V) (bs : List Blk) : Option Out := callF P mode n tbl (iterN P mode n tbl 4) f args bs

/-! Whole numbers. -/
def andI (k : IntKind) (x y : Int) : Int := k.wrap (BitVec.ofInt k.bits x &&& BitVec.ofInt k.bits y).toNat
def orI (k : IntKind) (x y : Int) : Int := k.wrap (BitVec.ofInt k.bits x ||| BitVec.ofInt k.bits y).toNat
def xorI (k : IntKind) (x y : Int) : Int := k.wrap (BitVec.ofInt k.bits x ^^^ BitVec.ofInt k.bits y).toNat
def andnI (k : IntKind) (x y : Int) : Int := k.wrap (BitVec.ofInt k.bits x &&& ~~~BitVec.ofInt k.bits y).toNat
def eqS (x y : ByteArray) : Bool := x.toList == y.toList
def ltS (x y : ByteArray) : Bool := Op.bytesLess x.toList y.toList
def txt (xs : List Int) : ByteArray := ⟨(xs.map fun x => UInt8.ofNat x.toNat).toArray⟩
end Go.PM
