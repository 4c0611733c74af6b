/- The value evaluator: regions, code, calls. Definitions alone. -/
import Derived.Test.YtfpdcfgjhkiklaaDoorPmDef
set_option linter.unusedSimpArgs false
set_option linter.unusedVariables false
set_option autoImplicit false
namespace Go.PM

mutual
/-- Bears no slice, no pointer. -/
def flat : V → Bool
  | .s _ => true
  | .agg cs => flatL cs
  | .tup cs => flatL cs
  | _ => false
def flatL : List V → Bool
  | [] => true
  | v :: vs => flat v && flatL vs
end

/-- What a call tells: its value; the blocks: those that it was given, as they then are, and the new ones. -/
abbrev Out := V × List (Option Blk)

/-- call: what calls tell, each on a condition. mode f: 0: arguments are seen as frozen, so is the result; 1: the result's blocks are the caller's; 2: the arguments' blocks go into the call, and back. N: how many temporaries. -/
structure Ctx (R : Type) where
  P : Program
  call : FuncId → List V → List Blk → Option (Bool × Out)
  mode : FuncId → Nat
  fuel : Nat
  N : Nat
  own : Nat
  iter : FuncId → List V → Nat → Nat → (List V → St → (Bool → St → Option R) → Option R) → List (Nat × Option Blk) → Nat → (St → Option R) → Option R
  yl : Option (Nat × (List V → St → (Bool → St → Option R) → Option R))

/-- A call that is told: on condition. -/
def callK {R : Type} (x : Option (Bool × Out)) (K : Out → Option R) : Option R :=
  match x with
  | some (g, o) => grd g (K o)
  | none => none

def idxFrom (t : Nat) : List Nat → Nat → Option Nat
  | [], _ => none
  | x :: xs, i => bif Nat.beq x t then some i else idxFrom t xs (i + 1)
def idx (l : List Nat) (t : Nat) : Option Nat := idxFrom t l 0

/-- The tokens that are reached from some. -/
def reach (H : Heap) : Nat → List Nat → List Nat → List Nat
  | 0, _, acc => acc
  | _, [], acc => acc
  | n + 1, t :: ts, acc =>
    bif acc.any (Nat.beq t) then reach H n ts acc
    else match at_ H t with
      | some b => (match b.c with | .agg cs => reach H n (toksL cs ++ ts) (acc ++ [t]) | _ => reach H n ts (acc ++ [t]))
      | none => reach H n ts (acc ++ [t])

def renB (f : Nat → Option Nat) (b : Blk) : Option Blk := match b.c with
  | .agg cs => (renL f cs).map fun cs => { b with c := .agg cs }
  | _ => some b

def blksOf (H : Heap) (f : Nat → Option Nat) : List Nat → Option (List Blk)
  | [] => some []
  | t :: ts => (at_ H t).bind fun b => (renB f b).bind fun b => (blksOf H f ts).map (b :: ·)

/-- The call's blocks in the caller's table: number j is the token l[j], the others are new. -/
def backTok (l : List Nat) (tok j : Nat) : Option Nat := bif Nat.blt j l.length then l[j]? else some (tok + (j - l.length))
def backHw (l : List Nat) (tok : Nat) : Nat → List (Option Blk) → Option (List (Nat × Option Blk))
  | _, [] => some []
  | j, ob :: r => (backTok l tok j).bind fun t => match ob with
    | none => (backHw l tok (j + 1) r).map ((t, none) :: ·)
    | some b => (renB (backTok l tok) b).bind fun b => (backHw l tok (j + 1) r).map ((t, some b) :: ·)

def freshN (H : Heap) (tok : Nat) : Nat → Bool
  | 0 => true
  | n + 1 => fresh H (tok + n) && freshN H tok n

/-- One operation, a call among them. -/
def opE {R Q : Type} (X : Ctx Q) (o : Oper) (T : Nat → Option V) (H : Heap) (tok : Nat) (K : Eff → Option R) : Option R :=
  match o.op with
  | .call { callee := .value f, args, .. } =>
    match ev T f with
    | some (.fn (.func f) first cap) => (evL T args.toList).bind fun vs =>
        match X.mode f with
        | 2 => (let l := reach H 1000 (toksL (first ++ vs ++ cap)) []
          (renL (idx l) (first ++ vs ++ cap)).bind fun ws => (blksOf H (idx l) l).bind fun bs =>
          callK (X.call f ws bs) fun (r, bs') => (ren (backTok l tok) r).bind fun r => (backHw l tok 0 bs').bind fun hw =>
            bif Nat.ble l.length bs'.length && freshN H tok (bs'.length - l.length) then K { v := r, hw := hw, rd := l } else none)
        | _ => (viewL H (first ++ vs ++ cap)).bind fun ws =>
          callK (X.call f ws []) fun (r, bs') => (ren (backTok [] tok) r).bind fun r => (backHw [] tok 0 bs').bind fun hw =>
            bif freshN H tok bs'.length then bif flat r && bs'.isEmpty then K { v := r, rd := toksL (first ++ vs ++ cap) } else K { v := r, hw := hw ++ frz H (toksL (first ++ vs ++ cap)), rd := toksL (first ++ vs ++ cap) } else none
    | _ => none
  | _ => eff X.P o T H tok K

def put (T : List (Nat × V)) (d : Option Nat) (v : V) : List (Nat × V) :=
  match d with
  | some d => (d, v) :: T
  | none => T

def dOk (d : Option Nat) (N : Nat) : Bool := match d with | some d => Nat.blt d N | none => true

structure Ev where
  i : Nat
  rd : List Nat
  hw : List Nat

def disj (a b : List Nat) : Bool := a.all fun t => !(b.any (Nat.beq t))

/-- Two operations that no edge binds: neither touches what the other one looks at. -/
def apart (ops : Array Oper) (bef : Array Nat) (x y : Ev) : Bool :=
  (bef.getD y.i 0).testBit x.i || (bef.getD x.i 0).testBit y.i ||
  (match ops[x.i]?, ops[y.i]? with
   | some ox, some oy => ox.apart ops oy && disj x.hw y.rd && disj x.hw y.hw && disj y.hw x.rd
   | _, _ => false)
def noSel_ (ops : Array Oper) : Bool := ops.all fun o => noSel o.op
def chk (ops : Array Oper) (tr : List Ev) : Bool :=
  let bef := Region.before ops
  (tr.all fun x => tr.all fun y => Nat.beq x.i y.i || apart ops bef x y) && noSel_ ops && (List.range ops.size).all fun i => match ops[i]? with | some o => o.after.all fun e => !Region.binds .any e || Nat.blt e.on i | none => true

/-- Does it hand something to the round? Then what. -/
def yields (T : Nat → Option V) (o : Oper) : Option (Nat × List V) :=
  match o.op with
  | .call { callee := .value f, args, .. } => match ev T f with
    | some (.yl t) => (evL T args.toList).map (t, ·)
    | _ => none
  | _ => none

def isNone_ {α : Type} : Option α → Bool
  | none => true
  | _ => false

/-- One operation that is not passed over. -/
def evOp {R : Type} (X : Ctx R) (o : Oper) (st : St) (base i : Nat) (tr : List Ev) (K : St → List Ev → Option R) : Option R :=
  match X.yl with
  | none => opE X o (lk st.tm) (lk st.hp) (base + 16 * i) fun e => K { st with tm := put st.tm o.dst e.v, hp := e.hw ++ st.hp } (⟨i, e.rd, e.hw.map (·.1)⟩ :: tr)
  | some (t, h) => match yields (lk st.tm) o with
    | none => opE X o (lk st.tm) (lk st.hp) (base + 16 * i) fun e => K { st with tm := put st.tm o.dst e.v, hp := e.hw ++ st.hp } (⟨i, e.rd, e.hw.map (·.1)⟩ :: tr)
    | some (t', vs) => bif Nat.beq t' t && isNone_ st.pend then h vs st fun b s => K { s with tm := put st.tm o.dst (.s (.bool b)) } (⟨i, [], []⟩ :: tr) else none

def refine (ops : Array Oper) (j : Nat) (b : Bool) (st : St) : St := { st with tm := put st.tm ((ops[j]?).bind (·.dst)) (.s (.bool b)) }

def evOps {R : Type} (X : Ctx R) (ops : Array Oper) (base : Nat) : List Oper → Nat → St → List Ev → (St → List Ev → Option R) → Option R
  | [], _, st, tr, K => K st tr
  | o :: rest, i, st, tr, K =>
    let skip := fun (st : St) => bif dOk o.dst X.N then evOps X ops base rest (i + 1) { st with tm := put st.tm o.dst (.s undef) } (⟨i, [], []⟩ :: tr) K else none
    let run := fun (st : St) => bif dOk o.dst X.N then evOp X o st base i tr fun st tr => evOps X ops base rest (i + 1) st tr K else none
    match o.guard with
    | none => run st
    | some (j, want) =>
      match ((ops[j]?).bind (·.dst)).bind (lk st.tm) with
      | some (.s (.bool b)) => (match want with
        | true => br b (run (refine ops j true st)) (skip (refine ops j false st))
        | false => br b (skip (refine ops j true st)) (run (refine ops j false st)))
      | some (.s (.tuple _)) => skip st
      | _ => none

/-- Temporaries that code names, as a mask. -/
def mOpnd : Operand → Nat
  | .tmp t => 2 ^ t
  | _ => 0
def mOps (l : List Oper) : Nat := l.foldr (fun o m => o.op.operands.foldr (fun x m => Nat.lor (mOpnd x) m) m) 0
def mCode : Code → Nat
  | .region _ ops _ => mOps ops.toList
  | .seq a b => Nat.lor (mCode a) (mCode b)
  | .cond c a b => Nat.lor (mOpnd c) (Nat.lor (mCode a) (mCode b))
  | .block _ b => mCode b
  | .loop b => mCode b
  | .scope b => mCode b
  | .rangeFunc f _ a b => Nat.lor (mOpnd f) (Nat.lor (mCode a) (mCode b))
  | _ => 0

def isSome_ {α : Type} : Option α → Bool
  | some _ => true
  | none => false
/-- The temporaries below n that a mask names and that have a value, rising. -/
def keepB (m : Nat) (tm : List (Nat × V)) : Nat → List Nat → List Nat
  | 0, acc => acc
  | t + 1, acc => bif Nat.testBit m t && isSome_ (lk tm t) then keepB m tm t (t :: acc) else keepB m tm t acc
def keep (N m : Nat) (tm : List (Nat × V)) : List Nat := keepB m tm N []

def getAll (tm : List (Nat × V)) : List Nat → Option (List (Nat × V))
  | [] => some []
  | t :: ts => (lk tm t).bind fun v => (getAll tm ts).map ((t, v) :: ·)

def renTm (f : Nat → Option Nat) : List (Nat × V) → Option (List (Nat × V))
  | [] => some []
  | (t, v) :: r => (ren f v).bind fun v => (renTm f r).map ((t, v) :: ·)

def renHp (H : Heap) (f : Nat → Option Nat) : List Nat → Nat → Option (List (Nat × Option Blk))
  | [], _ => some []
  | t :: ts, i => match at_ H t with
    | some b => (renB f b).bind fun b => (renHp H f ts (i + 1)).map ((i, some b) :: ·)
    | none => (renHp H f ts (i + 1)).map ((i, none) :: ·)

def toksT : List (Nat × V) → List Nat
  | [] => []
  | (_, v) :: r => toks v ++ toksT r

def addNew : List Nat → List Nat → List Nat
  | [], acc => acc
  | t :: ts, acc => bif acc.any (Nat.beq t) then addNew ts acc else addNew ts (acc ++ [t])

/-- A state with the named temporaries alone, its tokens numbered anew (but the first m). -/
def norm (m : Nat) (names : List Nat) (st : St) : Option St :=
  (getAll st.tm names).bind fun tm =>
    let l := addNew (reach (lk st.hp) 1000 (List.range m ++ toksT tm) []) (List.range m)
    (renTm (idx l) tm).bind fun tm => (renHp (lk st.hp) (idx l) l 0).bind fun hp => some ⟨tm, hp, l.length, st.pend⟩

/-- Rounds; m: tokens below it keep their numbers; names: the temporaries of a round's beginning; out: those that are kept behind the loop. -/
def loopN {R : Type} (body : St → (Ex → St → Option R) → Option R) (m : Nat) (names : List Nat) (out : St → List Nat) : Nat → St → (Ex → St → Option R) → Option R
  | 0, _, _ => none
  | n + 1, st, K => body st fun e st =>
      match e with
      | .normal => (norm m names st).bind fun st => loopN body m names out n st K
      | e => (norm m (out st) st).bind fun st => K e st
def loopGo {R : Type} (body : St → (Ex → St → Option R) → Option R) (m : Nat) (names : List Nat) (out : St → List Nat) (n : Nat) (st : St) (K : Ex → St → Option R) : Option R :=
  (norm m names st).bind fun st => loopN body m names out n st K

theorem loopN_zero {R : Type} (body : St → (Ex → St → Option R) → Option R) (m : Nat) (names : List Nat) (out : St → List Nat) (st : St) (K : Ex → St → Option R) : loopN body m names out 0 st K = none := rfl
theorem loopN_succ {R : Type} (body : St → (Ex → St → Option R) → Option R) (m : Nat) (names : List Nat) (out : St → List Nat) (n : Nat) (st : St) (K : Ex → St → Option R) :
    loopN body m names out (n + 1) st K = body st fun e st => match e with
      | .normal => (norm m names st).bind fun st => loopN body m names out n st K
      | e => (norm m (out st) st).bind fun st => K e st := rfl

/-- The code behind a label. -/
def hasLabel : Code → Nat → Bool
  | .seq a b, l => hasLabel a l || hasLabel b l
  | .label l', l => Nat.beq l' l
  | _, _ => false

/-- What comes of a round. -/
def rndEnd {R : Type} (s : St) (K : Bool → St → Option R) (e : Ex) (s2 : St) : Option R := match e with
  | .normal => K true { s with hp := s2.hp, ctr := s2.ctr }
  | e => K false { s with hp := s2.hp, ctr := s2.ctr, pend := some e }

def putPs : List (Nat × V) → List Nat → List V → List (Nat × V)
  | T, p :: ps, v :: vs => putPs ((p, v) :: T) ps vs
  | T, _, _ => T

def below_ (m : Nat) (hp : List (Nat × Option Blk)) : Bool := hp.all fun x => Nat.blt x.1 m

/-- A round of a range over a function: the caller's temporaries; what is handed to it; the state of the function that is ranged over. -/
def roundK {R : Type} (evA evB : Ctx R → Nat → St → (Ex → St → Option R) → Option R) (X : Ctx R) (ps : Array Tmp) (mm : Nat) (tm : List (Nat × V)) (vs : List V) (s : St) (Kb : Bool → St → Option R) : Option R :=
  bif Nat.beq vs.length ps.size && ps.toList.all (fun p => Nat.blt p X.N) && below_ s.ctr s.hp then
    evA { X with own := s.ctr, yl := none } mm ⟨putPs tm ps.toList vs, s.hp, s.ctr, none⟩ fun e s1 => match e with
      | .normal => bif below_ s1.ctr s1.hp then evB { X with own := s1.ctr, yl := none } 0 s1 (rndEnd s Kb) else none
      | _ => none
  else none
/-- Behind a range over a function. -/
def behind {R : Type} (st : St) (K : Ex → St → Option R) (s : St) : Option R :=
  match s.pend with
  | none => K .normal { st with hp := s.hp, ctr := s.ctr }
  | some e => K e { st with hp := s.hp, ctr := s.ctr }

def evC {R : Type} : Code → Ctx R → Nat → St → (Ex → St → Option R) → Option R
  | .skip, _, _, st, K => K .normal st
  | .label _, _, _, st, K => K .normal st
  | .ret, _, _, st, K => K .ret st
  | .exit id, _, _, st, K => K (.exit id) st
  | .goto l, _, _, st, K => K (.goto l) st
  | .region _ ops draw, X, _, st, K => match draw with
      | true => evOps { X with yl := none } ops st.ctr ops.toList 0 { st with ctr := st.ctr + 16 * ops.size } [] fun st tr => dchk (chk ops tr) (K .normal st)
      | false => evOps X ops st.ctr ops.toList 0 { st with ctr := st.ctr + 16 * ops.size } [] fun st _ => K .normal st
  | .seq a b, X, m, st, K => evC a X (Nat.lor (mCode b) m) st fun e st => match e with
    | .normal => evC b X m st K
    | e => K e st
  | .cond c a b, X, m, st, K => match ev (lk st.tm) c with
    | some (.s (.bool v)) => br v (evC a X m st K) (evC b X m st K)
    | _ => none
  | .block id body, X, m, st, K => evC body X m st fun e st => match e with
    | .exit id' => bif Nat.beq id' id then K .normal st else K (.exit id') st
    | e => K e st
  | .loop body, X, m, st, K => loopGo (fun st K => evC body X (Nat.lor (mCode body) m) st K) X.own (keep X.N (Nat.lor (mCode body) m) st.tm) (fun st => keep X.N m st.tm) X.fuel st K
  | .rangeFunc g ps assign body, X, m, st, K => (norm X.own (keep X.N (Nat.lor (Nat.lor (mOpnd g) (Nat.lor (mCode assign) (mCode body))) m) st.tm) st).bind fun st =>
    match ev (lk st.tm) g with
    | some (.fn (.func f) first cap) =>
      X.iter f (first ++ [.yl st.ctr] ++ cap) (st.ctr + 1) st.ctr (roundK (evC assign) (evC body) X ps (mCode body) st.tm) ((st.ctr, none) :: st.hp) (st.ctr + 1) (behind st K)
    | _ => none
  | .scope body, X, m, st, K => evC body X m st fun e st => match e with
    | .goto _ => none
    | e => K e st
  | _, _, _, _, _ => none

def resVar {R : Type} (P : Program) (T : Nat → Option V) (H : Heap) (r : ResultVar) (K : V → Option R) : Option R :=
  match r with
  | .tmp t => (T t).bind K
  | .cell a t => match T a with
    | some (.ptr k z i o) => (at_ H k).bind fun b => cget b.c z i fun cs => (part P t cs o).bind K
    | _ => none
def resVars {R : Type} (P : Program) (T : Nat → Option V) (H : Heap) : List ResultVar → (List V → Option R) → Option R
  | [], K => K []
  | r :: rs, K => resVar P T H r fun v => resVars P T H rs fun vs => K (v :: vs)

def oblks (H : Heap) (f : Nat → Option Nat) : List Nat → Option (List (Option Blk))
  | [] => some []
  | t :: ts => match at_ H t with
    | some b => (renB f b).bind fun b => (oblks H f ts).map (some b :: ·)
    | none => (oblks H f ts).map (none :: ·)

def oneOr (vs : List V) : V := match vs with | [v] => v | vs => .tup vs

/-- A result, and the blocks as they then are; m: how many were given. -/
def tellB (H : Heap) (m : Nat) (v : V) : Option Out :=
  let l := addNew (reach H 1000 (List.range m ++ toks v) []) (List.range m)
  (ren (idx l) v).bind fun v => (oblks H (idx l) l).bind fun bs => some (v, bs)
/-- What a call tells at its end; m: how many blocks it was given. mode 3: as 2, but the result is frozen. -/
def tell (P : Program) (mode m : Nat) (rs : List ResultVar) (st : St) : Option Out :=
  resVars P (lk st.tm) (lk st.hp) rs fun vs =>
    let v := oneOr vs
    match mode with
    | 0 => (view (lk st.hp) v).bind fun v => some (v, [])
    | 3 => (view (lk st.hp) v).bind fun u => tellB (lk (frz (lk st.hp) (toks v) ++ st.hp)) m u
    | _ => tellB (lk st.hp) m v

def mRes (l : List ResultVar) : Nat := l.foldr (fun r m => match r with | .tmp t => Nat.lor (2 ^ t) m | .cell a _ => Nat.lor (2 ^ a) m) 0

def params : Nat → List V → List (Nat × V)
  | _, [] => []
  | i, v :: vs => (i, v) :: params (i + 1) vs

def initHp : Nat → List Blk → List (Nat × Option Blk)
  | _, [] => []
  | i, b :: bs => (i, some b) :: initHp (i + 1) bs

def modeOk (mode : Nat) (bs : List Blk) : Bool := match bs with | [] => true | _ => Nat.beq mode 2 || Nat.beq mode 3

/-- What is ranged over. -/
abbrev Iter (R : Type) := FuncId → List V → Nat → Nat → (List V → St → (Bool → St → Option R) → Option R) → List (Nat × Option Blk) → Nat → (St → Option R) → Option R
abbrev Tbl := FuncId → List V → List Blk → Option (Bool × Out)

/-- A call, within n rounds of each loop; tbl: what the calls within it tell. -/
def callF (P : Program) (mode : FuncId → Nat) (n : Nat) (tbl : Tbl) (it : Iter Out) (f : FuncId) (args : List V) (bs : List Blk) : Option Out :=
    match P.funcs[f]? with
      | some fn => match fn.body with
        | some c => bif modeOk (mode f) bs then evC c ⟨P, tbl, mode, n, fn.ntmps, bs.length, it, none⟩ (mRes fn.results.toList) ⟨params 0 args, initHp 0 bs, bs.length, none⟩ fun e st => match e with
          | .normal => tell P (mode f) bs.length fn.results.toList st
          | .ret => tell P (mode f) bs.length fn.results.toList st
          | _ => none
          else none
        | none => none
      | none => none

/-- A function that is ranged over: m: tokens below it keep their numbers; t, h: what it hands its values to. -/
def iterF {R : Type} (P : Program) (mode : FuncId → Nat) (n : Nat) (tbl : Tbl) (it : Iter R) (f : FuncId) (args : List V) (m t : Nat) (h : List V → St → (Bool → St → Option R) → Option R) (hp : List (Nat × Option Blk)) (ctr : Nat) (K : St → Option R) : Option R :=
    match P.funcs[f]? with
      | some fn => match fn.body with
        | some c => match fn.results.toList with
          | [] => evC c ⟨P, tbl, mode, n, fn.ntmps, m, it, some (t, h)⟩ 0 ⟨params 0 args, hp, ctr, none⟩ fun e st => match e with
            | .normal => K st
            | .ret => K st
            | _ => none
          | _ => none
        | none => none
      | none => none
/-- Within k of them. -/
def iterN {R : Type} (P : Program) (mode : FuncId → Nat) (n : Nat) (tbl : Tbl) : Nat → Iter R
  | 0 => fun _ _ _ _ _ _ _ _ => none
  | k + 1 => iterF P mode n tbl (iterN P mode n tbl k)

/-- Within n calls and n rounds of each loop; base: calls that are told otherwise. -/
def lv (P : Program) (mode : FuncId → Nat) (base : Tbl) : Nat → Tbl
  | 0 => base
  | n + 1 => fun f args bs => match base f args bs with
    | some x => some x
    | none => (callF P mode n (lv P mode base n) (iterN P mode n (lv P mode base n) n) f args bs).map fun o => (true, o)
end Go.PM
