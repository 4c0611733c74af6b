/- A value evaluator of the model's code: values for memory. Definitions alone. -/
import Derived.OrdersIn
import Derived.Laws.StructEq
set_option linter.unusedSimpArgs false
set_option linter.unusedVariables false
set_option autoImplicit false
namespace Go.PM

/-- Shapes of frozen values, and what they hold. -/
inductive Sh where
  | int (k : IntKind)
  | str
  | bool
  | sl (s : Sh)
  | pair (a b : Sh)
  | unit
  deriving DecidableEq
def El : Sh → Type
  | .int _ => Int
  | .str => ByteArray
  | .bool => Bool
  | .sl s => List (El s)
  | .pair a b => El a × El b
  | .unit => Unit
/-- How many cells. -/
def Sh.sz : Sh → Nat
  | .pair a b => a.sz + b.sz
  | .unit => 0
  | _ => 1

/-- Values: s: a value that hangs on no memory; li, ls, lg: a frozen slice (of whole numbers, of strings, of rows of n cells); lt: one of rows of a shape; tt: a frozen slice whose capacity is its length; sl: a slice of a block of the activation's own
(token, cells of an element, from, length); ptr: a pointer into such a block (token, cells of an element, element, cell); lp: a pointer to frozen cells; agg, tup, fn: as the model's; yl: what a range over a function hands to it. -/
inductive V where
  | s (v : Value)
  | li (k : IntKind) (xs : List Int)
  | ls (xs : List ByteArray)
  | lg (n : Nat) (xs : List (List V))
  | lt (s : Sh) (xs : List (El s))
  | tt (v : V)
  | sl (t z off len : Nat)
  | ptr (t z i o : Nat)
  | lp (cs : List V) (o : Nat)
  | agg (cs : List V)
  | tup (vs : List V)
  | fn (f : Fn) (first cap : List V)
  | yl (t : Nat)
  deriving Inhabited

/-- A block: its elements' type, its contents, whether it may be written on. -/
structure Blk where
  ty : TypeId
  c : V
  wr : Bool

abbrev Heap := Nat → Option (Option Blk)

def lk {α : Type} : List (Nat × α) → Nat → Option α
  | [], _ => none
  | (j, v) :: r, i => bif Nat.beq j i then some v else lk r i

/-- The block of a token, if it lives. -/
def at_ (H : Heap) (t : Nat) : Option Blk := (H t).join

inductive Ex where
  | normal | exit (id : Nat) | goto (l : Nat) | ret

/-- pend: how the last round was left, if not by its end. -/
structure St where
  tm : List (Nat × V)
  hp : List (Nat × Option Blk)
  ctr : Nat
  pend : Option Ex

/-- A frozen slice of a shape's rows; a row's cells. -/
def slV : (s : Sh) → List (El s) → V
  | .int k, xs => .li k xs
  | .str, xs => .ls xs
  | .bool, xs => .lt .bool xs
  | .sl s, xs => .lt (.sl s) xs
  | .pair a b, xs => .lt (.pair a b) xs
  | .unit, xs => .lt .unit xs
def enc : (s : Sh) → El s → List V
  | .int k, x => [.s (.int k x)]
  | .str, x => [.s (.string x)]
  | .bool, x => [.s (.bool x)]
  | .sl s, xs => [slV s xs]
  | .pair a b, p => enc a p.1 ++ enc b p.2
  | .unit, _ => []
def liTo : (s : Sh) → IntKind → List Int → Option (List (El s))
  | .int k', k, xs => bif decide (k = k') then some xs else none
  | _, _, _ => none
def lsTo : (s : Sh) → List ByteArray → Option (List (El s))
  | .str, xs => some xs
  | _, _ => none
def nilTo (s : Sh) : Value → Option (List (El s))
  | .slice none 0 0 => some []
  | _ => none
def asSl (s : Sh) : V → Option (List (El s))
  | .s u => nilTo s u
  | .tt v => asSl s v
  | .lt s' xs => if h : s' = s then some (h ▸ xs) else none
  | .li k xs => liTo s k xs
  | .ls xs => lsTo s xs
  | _ => none
def vInt (k : IntKind) : V → Option Int
  | .s (.int k' x) => bif decide (k' = k) then some x else none
  | _ => none
def vStr : V → Option ByteArray
  | .s (.string x) => some x
  | _ => none
def vBool : V → Option Bool
  | .s (.bool x) => some x
  | _ => none
def only1 {α : Type} (f : V → Option α) : List V → Option α
  | [v] => f v
  | _ => none
/-- A row out of cells. -/
def dec : (s : Sh) → List V → Option (El s)
  | .int k, cs => only1 (vInt k) cs
  | .str, cs => only1 vStr cs
  | .bool, cs => only1 vBool cs
  | .sl s, cs => only1 (asSl s) cs
  | .pair a b, cs => (dec a (cs.take a.sz)).bind fun x => (dec b (cs.drop a.sz)).map fun y => (x, y)
  | .unit, cs => bif cs.isEmpty then some () else none

/-- Where the reckoning stands still. -/
def bnd {α β : Type} (x : Option α) (k : α → Option β) : Option β := x.bind k
def grd {β : Type} (b : Bool) (k : Option β) : Option β := bif b then k else none
def br {β : Type} (b : Bool) (k l : Option β) : Option β := bif b then k else l
def dchk {β : Type} (b : Bool) (k : Option β) : Option β := bif b then k else none

/-- What an operation yields that looks at no world. -/
def go (P : Program) {α : Type} : Sem α → Option α
  | .pure a => some a
  | .program k => go P (k P)
  | _ => none

/-- May lie in a cell. -/
def isCell : V → Bool
  | .agg _ | .tup _ => false
  | .s (.agg _) | .s (.tuple _) => false
  | _ => true

def ofValue : Value → V
  | .agg cs => bif (cs.toList.map V.s).all isCell then .agg (cs.toList.map .s) else .s (.agg cs)
  | .tuple cs => .s (.tuple cs)
  | .func f a b => .fn f (a.toList.map .s) (b.toList.map .s)
  | v => .s v

def ev (T : Nat → Option V) : Operand → Option V
  | .tmp t => T t
  | .const v => some (ofValue v)
  | .func f => some (.fn (.func f) [] [])
  | .global g => some (.s (.pointer (some ⟨g, 0, none⟩)))

def evL (T : Nat → Option V) : List Operand → Option (List V)
  | [] => some []
  | x :: xs => (ev T x).bind fun v => (evL T xs).map (v :: ·)

def sv (T : Nat → Option V) (x : Operand) : Value :=
  match ev T x with
  | some (.s v) => v
  | _ => undef

def isS : Option V → Bool
  | some (.s _) => true
  | _ => false

def noSel : Op → Bool
  | .select _ _ => false
  | _ => true

def scalar (P : Program) (T : Nat → Option V) (o : Oper) : Option Value :=
  bif noSel o.op && o.op.operands.toList.all (fun x => isS (ev T x)) then
    match go P (execOp (sv T) o) with
    | some (.value v) => some v
    | _ => none
  else none

def szOf (P : Program) (t : TypeId) : Nat := ((P.info? t).map (·.size)).getD 0
def bytesOf (P : Program) (t : TypeId) : Nat := ((P.info? t).map (·.bytes)).getD 0
def rowT : TypeDesc → Bool
  | .struct _ | .array _ _ => true
  | _ => false
def zeroV (P : Program) (t : TypeId) : Option (List Value) := ((P.info? t).bind (·.zero)).map fun v => v.cells.toList

/-- The value of type t that begins at a cell. -/
def part (P : Program) (t : TypeId) (cs : List V) (o : Nat) : Option V :=
  match P.underlying t with
  | none => none
  | some d => bif rowT d then bif Nat.ble (o + szOf P t) cs.length then some (.agg ((cs.drop o).take (szOf P t))) else none else cs[o]?

def cellsOf : V → List V
  | .agg cs => cs
  | v => [v]

def splice (cs : List V) (o : Nat) (xs : List V) : List V := cs.take o ++ xs ++ cs.drop (o + xs.length)

def clen : V → Option Nat
  | .li _ xs => some xs.length
  | .ls xs => some xs.length
  | .lg _ xs => some xs.length
  | .lt _ xs => some xs.length
  | .s (.slice none 0 0) => some 0
  | .tt (.lt _ xs) => some xs.length
  | .tt (.li _ xs) => some xs.length
  | .tt (.ls xs) => some xs.length
  | .tt (.lg _ xs) => some xs.length
  | _ => none

/-- The cells of an element. -/
def cget {R : Type} (c : V) (z i : Nat) (K : List V → Option R) : Option R :=
  match c with
  | .li k xs => bif Nat.beq z 1 then bnd (xs[i]?) fun x => K [.s (.int k x)] else none
  | .ls xs => bif Nat.beq z 1 then bnd (xs[i]?) fun x => K [.s (.string x)] else none
  | .lg n xs => bif Nat.beq z n then bnd (xs[i]?) K else none
  | .lt s xs => bif Nat.beq z s.sz then bnd (xs[i]?) fun x => K (enc s x) else none
  | .agg cs => bif Nat.beq i 0 then K cs else none
  | _ => none

/-- The contents behind a store. -/
def cset {R : Type} (c : V) (z i o : Nat) (vs : List V) (K : V → Option R) : Option R :=
  match c with
  | .li k xs => match vs with
    | [.s (.int k' x)] => bif Nat.beq z 1 && Nat.beq o 0 && decide (k' = k) then bnd (xs[i]?) fun _ => K (.li k (xs.set i x)) else none
    | _ => none
  | .ls xs => match vs with
    | [.s (.string x)] => bif Nat.beq z 1 && Nat.beq o 0 then bnd (xs[i]?) fun _ => K (.ls (xs.set i x)) else none
    | _ => none
  | .lg n xs => bif Nat.beq z n && Nat.ble (o + vs.length) n && vs.all isCell then bnd (xs[i]?) fun row => K (.lg n (xs.set i (splice row o vs))) else none
  | .lt s xs => bif Nat.beq z s.sz && Nat.ble (o + vs.length) s.sz && vs.all isCell then bnd (xs[i]?) fun x => (dec s (splice (enc s x) o vs)).bind fun y => K (.lt s (xs.set i y)) else none
  | .agg cs => bif Nat.beq i 0 && Nat.ble (o + vs.length) cs.length && vs.all isCell then K (.agg (splice cs o vs)) else none
  | _ => none

def csub : V → Nat → Nat → Option V
  | .li k xs, a, n => some (.li k ((xs.drop a).take n))
  | .ls xs, a, n => some (.ls ((xs.drop a).take n))
  | .lg m xs, a, n => some (.lg m ((xs.drop a).take n))
  | .lt s xs, a, n => some (.lt s ((xs.drop a).take n))
  | .s (.slice none 0 0), _, _ => some (.s (.slice none 0 0))
  | _, _, _ => none

/-- The cells of an element. -/
def zOk : V → Nat → Bool
  | .li _ _, z => Nat.beq z 1
  | .ls _, z => Nat.beq z 1
  | .lg n _, z => Nat.beq n z
  | .lt s _, z => Nat.beq s.sz z
  | _, _ => false

def bytesL (b : ByteArray) : List Int := b.data.toList.map fun x => (x.toNat : Int)

/-- The contents behind an append. -/
def capp : V → V → Option V
  | .li k xs, .li k' ys => bif decide (k' = k) then some (.li k (xs ++ ys)) else none
  | .ls xs, .ls ys => some (.ls (xs ++ ys))
  | .lg n xs, .lg m ys => bif Nat.beq n m then some (.lg n (xs ++ ys)) else none
  | .lt s xs, .lt s' ys => if h : s' = s then some (.lt s (xs ++ h ▸ ys)) else none
  | .li .u8 xs, .s (.string b) => some (.li .u8 (xs ++ bytesL b))
  | c, .s (.slice none 0 0) => some c
  | _, _ => none

/-- The shape of a type's values. -/
def shF (sh : TypeId → Option Sh) : List Field → Option Sh
  | [] => some .unit
  | [f] => sh f.type
  | f :: fs => (sh f.type).bind fun a => (shF sh fs).map fun b => .pair a b
def shOf (P : Program) : Nat → TypeId → Option Sh
  | 0, _ => none
  | n + 1, t => match P.underlying t with
    | some (.int k) => some (.int k)
    | some .string => some .str
    | some .bool => some .bool
    | some (.slice e) => (shOf P n e).map .sl
    | some (.struct fields) => shF (shOf P n) fields.toList
    | _ => none
def shT (P : Program) (t : TypeId) : Option Sh := shOf P 20 t

def mkC (P : Program) (t : TypeId) (n : Nat) : Option V :=
  match P.underlying t, zeroV P t with
  | some (.int k), some [.int k' x] => bif decide (k' = k) && decide (x = 0) && Nat.beq (szOf P t) 1 then some (.li k (List.replicate n 0)) else none
  | some .string, some [.string x] => bif decide (x = ByteArray.empty) && Nat.beq (szOf P t) 1 then some (.ls (List.replicate n ByteArray.empty)) else none
  | some (.int _), _ => none
  | some .string, _ => none
  | some _, some z => bif Nat.beq z.length (szOf P t) && Nat.blt 0 (szOf P t) && (z.map V.s).all isCell then
      match shT P t with
      | some s => bif Nat.beq s.sz (szOf P t) then (dec s (z.map .s)).map fun x => .lt s (List.replicate n x) else none
      | none => some (.lg (szOf P t) (List.replicate n (z.map .s)))
      else none
  | _, _ => none

def elemT (P : Program) (t : TypeId) : Option TypeId := match P.underlying t with | some (.slice e) => some e | _ => none

/-- What an operation does: its value; the blocks as they then are; the tokens whose blocks it looked at. -/
structure Eff where
  v : V := .s undef
  hw : List (Nat × Option Blk) := []
  rd : List Nat := []

mutual
/-- A value, its own slices seen as frozen. -/
def view (H : Heap) : V → Option V
  | .sl t _ a n => (at_ H t).bind fun b => csub b.c a n
  | .ptr .. => none
  | .yl _ => none
  | .agg cs => (viewL H cs).map .agg
  | .tup cs => (viewL H cs).map .tup
  | .fn f a b => (viewL H a).bind fun a => (viewL H b).map fun b => .fn f a b
  | v => some v
def viewL (H : Heap) : List V → Option (List V)
  | [] => some []
  | v :: vs => (view H v).bind fun v => (viewL H vs).map (v :: ·)
end
mutual
/-- A value's tokens. -/
def toks : V → List Nat
  | .sl t _ _ _ => [t]
  | .ptr t _ _ _ => [t]
  | .yl t => [t]
  | .agg cs => toksL cs
  | .tup cs => toksL cs
  | .fn _ a b => toksL a ++ toksL b
  | _ => []
def toksL : List V → List Nat
  | [] => []
  | v :: vs => toks v ++ toksL vs
end
mutual
/-- A value under other tokens. -/
def ren (f : Nat → Option Nat) : V → Option V
  | .sl t z a n => (f t).map (.sl · z a n)
  | .ptr t z i o => (f t).map (.ptr · z i o)
  | .yl t => (f t).map .yl
  | .agg cs => (renL f cs).map .agg
  | .tup cs => (renL f cs).map .tup
  | .fn g a b => (renL f a).bind fun a => (renL f b).map fun b => .fn g a b
  | v => some v
def renL (f : Nat → Option Nat) : List V → Option (List V)
  | [] => some []
  | v :: vs => (ren f v).bind fun v => (renL f vs).map (v :: ·)
end

/-- Blocks that may not be written on from here on. -/
def frz (H : Heap) : List Nat → List (Nat × Option Blk)
  | [] => []
  | t :: ts => match at_ H t with
    | some b => bif b.wr then (t, some { b with wr := false }) :: frz H ts else frz H ts
    | none => frz H ts

def intOf (T : Nat → Option V) (x : Operand) : Option Int :=
  match ev T x with
  | some (.s (.int _ n)) => some n
  | _ => none

/-- The element at an index. -/
def ix {α : Type} (xs : List α) (i : Int) : Option α := if 0 ≤ i then xs[i.toNat]? else none
def upTo (i : Int) (m : Nat) : Option Nat := if 0 ≤ i ∧ i ≤ (m : Int) then some i.toNat else none
def below (i : Int) (m : Nat) : Option Nat := if 0 ≤ i ∧ i < (m : Int) then some i.toNat else none
def mkN (n m : Int) (b : Nat) : Option Nat := if 0 ≤ n ∧ n = m ∧ n * b ≤ 140737488355328 ∧ n ≤ 140737488355328 then some n.toNat else none
def divI (op : BinOp) (k : IntKind) (a b : Int) : Option Int :=
  if b = 0 then none else match op with | .quo => some (k.wrap (a.tdiv b)) | .rem => some (a.tmod b) | _ => none
def shfI (op : BinOp) (k : IntKind) (a b : Int) : Option Int :=
  if b < 0 then none else match op with | .shl => some (k.wrap (a * 2 ^ min b.toNat k.bits)) | .shr => some (a.fdiv (2 ^ min b.toNat k.bits)) | _ => none

def bound {R : Type} (T : Nat → Option V) (m : Nat) (x : Option Operand) (d : Nat) (K : Nat → Option R) : Option R :=
  match x with
  | none => K d
  | some x => match intOf T x with
    | some n => bnd (upTo n m) K
    | none => none

def fill (place : Nat → Option (Nat × Nat)) (cells : List V) : List (Nat × V) → Option (List V)
  | [] => some cells
  | (i, v) :: rest =>
    match place i with
    | none => none
    | some (off, size) => bif Nat.beq (cellsOf v).length size && Nat.ble (off + size) cells.length && (cellsOf v).all isCell then fill place (splice cells off (cellsOf v)) rest else none

def evPs (T : Nat → Option V) : List (Nat × Operand) → Option (List (Nat × V))
  | [] => some []
  | (i, x) :: xs => (ev T x).bind fun v => (evPs T xs).map ((i, v) :: ·)

def inOrder : Nat → List (Nat × V) → Bool
  | _, [] => true
  | n, (i, _) :: r => Nat.beq i n && inOrder (n + 1) r

def ints (k : IntKind) : List V → Option (List Int)
  | [] => some []
  | .s (.int k' n) :: vs => bif decide (k' = k) then (ints k vs).map (n :: ·) else none
  | _ => none
def strs : List V → Option (List ByteArray)
  | [] => some []
  | .s (.string n) :: vs => (strs vs).map (n :: ·)
  | _ => none
def rows (n : Nat) : List V → Option (List (List V))
  | [] => some []
  | v :: vs => bif Nat.beq (cellsOf v).length n && (cellsOf v).all isCell then (rows n vs).map (cellsOf v :: ·) else none

def rowsT (s : Sh) : List V → Option (List (El s))
  | [] => some []
  | v :: vs => bif Nat.beq (cellsOf v).length s.sz && (cellsOf v).all isCell then (dec s (cellsOf v)).bind fun x => (rowsT s vs).map (x :: ·) else none

/-- Contents out of elements. -/
def ofElems (P : Program) (e : TypeId) (vs : List V) : Option V :=
  match P.underlying e with
  | some (.int k) => bif Nat.beq (szOf P e) 1 then (ints k vs).map (.li k) else none
  | some .string => bif Nat.beq (szOf P e) 1 then (strs vs).map .ls else none
  | some _ => match shT P e with
    | some s => bif Nat.beq s.sz (szOf P e) then (rowsT s vs).map (.lt s) else none
    | none => (rows (szOf P e) vs).map (.lg (szOf P e))
  | none => none

/-- What an append freezes. -/
def fzT (w u : V) : List Nat := match w, u with
  | .sl _ _ _ _, .li _ _ => []
  | .sl _ _ _ _, .ls _ => []
  | w, _ => toks w

/-- How many elements an append takes. -/
def alen : V → Option Nat
  | .li _ xs => some xs.length
  | .ls xs => some xs.length
  | .lg _ xs => some xs.length
  | .lt _ xs => some xs.length
  | .s (.slice none 0 0) => some 0
  | .s (.string b) => some b.size
  | _ => none
def okN (n b : Nat) : Bool := Nat.ble (n * b) 70368744177664 && Nat.ble n 70368744177664
def lenC : V → Nat
  | .li _ xs => xs.length
  | .ls xs => xs.length
  | .lg _ xs => xs.length
  | .lt _ xs => xs.length
  | _ => 0
def isStr : V → Bool
  | .s (.string _) => true
  | _ => false
def kindOk (d : TypeDesc) (u : V) : Bool :=
  match d with
  | .string => isStr u
  | .slice _ => !isStr u
  | _ => false
def zLen (P : Program) (e : TypeId) : Bool := match zeroV P e with | some z => Nat.beq z.length (szOf P e) | none => false
def ttOk (P : Program) (e : TypeId) : V → Bool
  | .li k _ => match P.underlying e with | some (.int k') => decide (k = k') | _ => false
  | .ls _ => match P.underlying e with | some .string => true | _ => false
  | .lg _ _ => true
  | .lt _ _ => true
  | _ => false

def fresh (H : Heap) (t : Nat) : Bool := (H t).isNone

/-- Contents with others laid over a part. -/
def cput : V → Nat → V → Option V
  | .li k xs, a, .li k' ys => bif decide (k' = k) then some (.li k (xs.take a ++ ys ++ xs.drop (a + ys.length))) else none
  | .ls xs, a, .ls ys => some (.ls (xs.take a ++ ys ++ xs.drop (a + ys.length)))
  | _, _, _ => none
def ctake : V → Nat → Option V
  | .li k xs, n => some (.li k (xs.take n))
  | .ls xs, n => some (.ls (xs.take n))
  | _, _ => none
def srcC : V → Option V
  | .s (.string b) => some (.li .u8 (bytesL b))
  | .li k xs => some (.li k xs)
  | .ls xs => some (.ls xs)
  | _ => none

def isSliceT : Option TypeDesc → Bool
  | some (.slice _) => true
  | _ => false
def isPtrT : Option TypeDesc → Bool
  | some (.pointer _) => true
  | _ => false

/-- Are the fields of two structs the same? -/
def eqFs (P : Program) : List Field → List V → List V → Option Bool
  | [], _, _ => some true
  | f :: fs, cs, ds => bif f.name != "_" then
      match P.underlying f.type, part P f.type cs f.offset, part P f.type ds f.offset with
      | some (.int _), some (.s (.int k a)), some (.s (.int k' b)) => bif decide (k' = k) then (eqFs P fs cs ds).map fun r => (a == b) && r else none
      | some .string, some (.s (.string a)), some (.s (.string b)) => (eqFs P fs cs ds).map fun r => (a.toList == b.toList) && r
      | some .bool, some (.s (.bool a)), some (.s (.bool b)) => (eqFs P fs cs ds).map fun r => (a == b) && r
      | _, _, _ => none
    else none
def isStructT : Option TypeDesc → Bool
  | some (.struct _) => true
  | _ => false
def eqT (P : Program) (t : TypeId) : Bool := isStructT (P.underlying t) && !P.stoodInHeld t && !P.eqGuardType P.depth t

/-- One operation. -/
def eff {R : Type} (P : Program) (o : Oper) (T : Nat → Option V) (H : Heap) (tok : Nat) (K : Eff → Option R) : Option R :=
  match o.op with
  | .move x | .assign x => (ev T x).bind fun v => K { v }
  | .pick c a b => match ev T c with
    | some (.s (.bool c)) => br c ((ev T a).bind fun v => K { v }) ((ev T b).bind fun v => K { v })
    | _ => none
  | .alloc t => bif fresh H tok then (zeroV P t).bind fun z => bif (z.map V.s).all isCell then K { v := .ptr tok (szOf P t) 0 0, hw := [(tok, some ⟨t, .agg (z.map .s), true⟩)] } else none else none
  | .box t x => bif fresh H tok then (ev T x).bind fun v => bif (cellsOf v).all isCell then K { v := .ptr tok (szOf P t) 0 0, hw := [(tok, some ⟨t, .agg (cellsOf v), true⟩)] } else none else none
  | .build t ps => (evPs T ps.toList).bind fun vs => (zeroV P t).bind fun z => bif (z.map V.s).all isCell then
      match P.underlying t with
      | some (.struct fields) => bif fields.toList.all (fun f => (P.info? f.type).isSome) then (fill (fun i => (fields[i]?).map fun f => (f.offset, szOf P f.type)) (z.map .s) vs).bind fun cs => K { v := .agg cs } else none
      | some (.array _ e) => bif (P.info? e).isSome then (fill (fun i => some (i * szOf P e, szOf P e)) (z.map .s) vs).bind fun cs => K { v := .agg cs } else none
      | _ => none
      else none
  | .buildSlice t n ps => bif fresh H tok then (evPs T ps.toList).bind fun vs => (elemT P t).bind fun e =>
      bif inOrder 0 vs && Nat.beq vs.length n && Nat.ble (n * szOf P e) 16777216 && Nat.blt 0 (szOf P e) && (zeroV P e).isSome then
        (viewL H (vs.map (·.2))).bind fun us => (ofElems P e us).bind fun c =>
          K { v := .sl tok (szOf P e) 0 n, hw := (tok, some ⟨e, c, true⟩) :: frz H (toksL (vs.map (·.2))), rd := toksL (vs.map (·.2)) }
      else none else none
  | .load t a => match ev T a with
    | some (.ptr k z i off) => (at_ H k).bind fun b => cget b.c z i fun cs => (part P t cs off).bind fun v => K { v, rd := [k] }
    | some (.lp cs off) => (part P t cs off).bind fun v => K { v }
    | _ => none
  | .store t a x => match ev T a with
    | some (.ptr k z i off) => (ev T x).bind fun v => bif Nat.beq (cellsOf v).length (szOf P t) && Nat.blt 0 (szOf P t) && (cellsOf v).all isCell then (at_ H k).bind fun b =>
        bif b.wr then match b.c with
          | .agg cs => cset (.agg cs) z i off (cellsOf v) fun c => K { hw := [(k, some { b with c := c })], rd := [k] }
          | _ => (view H v).bind fun u => bif (cellsOf u).all isCell && !((toks v).any (Nat.beq k)) then cset b.c z i off (cellsOf u) fun c => K { hw := (k, some { b with c := c }) :: frz H (toks v), rd := k :: toks v } else none
        else none else none
    | _ => none
  | .nilCheck x => match ev T x with
    | some (.ptr k z i off) => K { v := .ptr k z i off }
    | some (.lp c off) => K { v := .lp c off }
    | some (.fn (.func f) a b) => K { v := .fn (.func f) a b }
    | _ => none
  | .fieldAddr t x f => match P.underlying t with
    | some (.struct fields) => (fields[f]?).bind fun fd => bif Nat.beq (szOf P fd.type) 0 then none else match ev T x with
      | some (.ptr k z i off) => K { v := .ptr k z i (off + fd.offset) }
      | some (.lp c off) => K { v := .lp c (off + fd.offset) }
      | _ => none
    | _ => none
  | .field t x f => match P.underlying t with
    | some (.struct fields) => (fields[f]?).bind fun fd => match ev T x with
      | some (.agg cs) => (part P fd.type cs fd.offset).bind fun v => K { v }
      | _ => none
    | _ => none
  | .indexAddr t x y => match intOf T y with
    | some i => match P.underlying t with
      | some (.slice e) => match ev T x with
        | some (.sl k z a n) => bif Nat.beq z (szOf P e) && Nat.blt 0 z then bnd (below i n) fun j => K { v := .ptr k z (a + j) 0 } else none
        | some (.li k xs) => bif Nat.beq (szOf P e) 1 then bnd (ix xs i) fun x => K { v := .lp [.s (.int k x)] 0 } else none
        | some (.ls xs) => bif Nat.beq (szOf P e) 1 then bnd (ix xs i) fun x => K { v := .lp [.s (.string x)] 0 } else none
        | some (.lg n xs) => bif Nat.beq (szOf P e) n && Nat.blt 0 n then bnd (ix xs i) fun cs => K { v := .lp cs 0 } else none
        | some (.lt s xs) => bif Nat.beq (szOf P e) s.sz && Nat.blt 0 s.sz then bnd (ix xs i) fun x => K { v := .lp (enc s x) 0 } else none
        | _ => none
      | _ => none
    | none => none
  | .index t x y => match P.underlying t with
    | some .string => match intOf T y with
      | some i => match ev T x with
        | some (.s (.string b)) => bnd (ix b.data.toList i) fun c => K { v := .s (.int .u8 c.toNat) }
        | _ => none
      | none => none
    | _ => none
  | .extract x i => match ev T x with
    | some (.tup vs) => (vs[i]?).bind fun v => K { v }
    | _ => none
  | .slice t x lo hi mx => match P.underlying t with
    | some .string => match ev T x with
      | some (.s (.string b)) => bif mx.isNone then bound T b.size hi b.size fun h => bound T h lo 0 fun l => K { v := .s (.string (b.extract l h)) } else none
      | _ => none
    | some (.slice e) => match ev T x with
      | some (.sl k z a n) => bif mx.isNone && Nat.beq z (szOf P e) && Nat.blt 0 z then bound T n hi n fun h => bound T h lo 0 fun l => K { v := .sl k z (a + l) (h - l) } else none
      | some (.s (.slice none 0 0)) => bif mx.isNone && Nat.blt 0 (szOf P e) then bound T 0 hi 0 fun h => bound T h lo 0 fun l => K { v := .s (.slice none 0 0) } else (scalar P T o).bind fun v => K { v := .s v }
      | some (.s v) => (scalar P T o).bind fun v => K { v := .s v }
      | some c => match clen c with
        | some n => bif zOk c (szOf P e) && Nat.blt 0 (szOf P e) then match mx with
          | none => bound T n hi n fun h => bound T h lo 0 fun l => (csub c l (h - l)).bind fun v => K { v }
          | some _ => bif hi.isSome then bound T n mx n fun m => bound T m hi n fun h => bound T h lo 0 fun l => grd (Nat.beq h m) <| (csub c l (h - l)).bind fun v => K { v := .tt v } else none
          else none
        | none => none
      | none => none
    | _ => none
  | .makeSlice t l c => match intOf T l, intOf T c with
    | some n, some m => bif fresh H tok then (elemT P t).bind fun e => bnd (mkN n m (bytesOf P e)) fun n => (mkC P e n).bind fun c =>
        K { v := .sl tok (szOf P e) 0 n, hw := [(tok, some ⟨e, c, true⟩)] } else none
    | _, _ => none
  | .makeFunc (.func f) a b => (evL T a.toList).bind fun a => (evL T b.toList).bind fun b => K { v := .fn (.func f) a b }
  | .makeFunc .. => none
  | .binOp op t_ x y _ => match op, ev T x, ev T y with
    | .quo, some (.s (.int k a)), some (.s (.int k' b)) => bif decide (k = k') then bnd (divI .quo k a b) fun v => K { v := .s (.int k v) } else none
    | .rem, some (.s (.int k a)), some (.s (.int k' b)) => bif decide (k = k') then bnd (divI .rem k a b) fun v => K { v := .s (.int k v) } else none
    | .shl, some (.s (.int k a)), some (.s (.int _ b)) => bnd (shfI .shl k a b) fun v => K { v := .s (.int k v) }
    | .shr, some (.s (.int k a)), some (.s (.int _ b)) => bnd (shfI .shr k a b) fun v => K { v := .s (.int k v) }
    | .add, some (.s (.string a)), some (.s (.string b)) => grd (Nat.ble (a.size + b.size) 9223372036854775807) <| K { v := .s (.string (a ++ b)) }
    | .eql, some (.sl _ _ _ _), some (.s (.slice none 0 0)) => bif isSliceT (P.underlying t_) then K { v := .s (.bool false) } else none
    | .neq, some (.sl _ _ _ _), some (.s (.slice none 0 0)) => bif isSliceT (P.underlying t_) then K { v := .s (.bool true) } else none
    | .eql, some (.ptr _ _ _ _), some (.s (.pointer none)) => bif isPtrT (P.underlying t_) then K { v := .s (.bool false) } else none
    | .neq, some (.ptr _ _ _ _), some (.s (.pointer none)) => bif isPtrT (P.underlying t_) then K { v := .s (.bool true) } else none
    | .eql, some (.li _ xs), some (.s (.slice none 0 0)) => bif isSliceT (P.underlying t_) then grd (Nat.blt 0 xs.length) <| K { v := .s (.bool false) } else none
    | .eql, some (.ls xs), some (.s (.slice none 0 0)) => bif isSliceT (P.underlying t_) then grd (Nat.blt 0 xs.length) <| K { v := .s (.bool false) } else none
    | .eql, some (.lt s xs), some (.s (.slice none 0 0)) => bif isSliceT (P.underlying t_) && Nat.blt 0 s.sz then grd (Nat.blt 0 (List.length (α := El s) xs)) <| K { v := .s (.bool false) } else none
    | .eql, some (.agg cs), some (.agg ds) => bif eqT P t_ then (eqFs P (P.fieldsOf t_).toList cs ds).bind fun r => K { v := .s (.bool r) } else none
    | .neq, some (.agg cs), some (.agg ds) => bif eqT P t_ then (eqFs P (P.fieldsOf t_).toList cs ds).bind fun r => K { v := .s (.bool (!r)) } else none
    | _, _, _ => (scalar P T o).bind fun v => K { v := .s v }
  | .convert src dst x => match P.underlying src, P.underlying dst, ev T x with
    | some (.slice e), some .string, some (.sl k _ a n) => match P.underlying e with
      | some (.int .u8) => (at_ H k).bind fun b => match b.c with
        | .li .u8 xs => grd (Nat.ble (a + n) xs.length) <| K { v := .s (.string ⟨(((xs.drop a).take n).map fun x => UInt8.ofNat x.toNat).toArray⟩), rd := [k] }
        | _ => none
      | _ => none
    | some .string, some (.slice e), some (.s (.string b)) => match P.underlying e with
      | some (.int .u8) => bif fresh H tok then bif Nat.beq (szOf P e) 1 then K { v := .sl tok 1 0 b.size, hw := [(tok, some ⟨e, .li .u8 (bytesL b), true⟩)] } else none else none
      | _ => none
    | _, _, _ => (scalar P T o).bind fun v => K { v := .s v }
  | .call { callee := .builtin .len, args, argTypes } => match args.toList, argTypes.toList with
    | [x], t :: _ => match P.underlying t with
      | some (.slice _) => match ev T x with
        | some (.sl _ _ _ n) => K { v := .s (.int .i64 n) }
        | some c => (clen c).bind fun n => K { v := .s (.int .i64 n) }
        | none => none
      | _ => (scalar P T o).bind fun v => K { v := .s v }
    | _, _ => none
  | .call { callee := .builtin .append, args, argTypes } => match args.toList, argTypes.toList with
    | [x, y], [t, tu] => match P.underlying tu with
      | some d => bif fresh H tok then (elemT P t).bind fun e => (ev T x).bind fun s => (ev T y).bind fun w => (view H w).bind fun u => (alen u).bind fun n => bif kindOk d u then
          match s with
          | .s (.slice none 0 0) => (mkC P e 0).bind fun c => (capp c u).bind fun c => br (Nat.beq n 0) (K { v := .s (.slice none 0 0), rd := tok :: toks w }) <|
              grd (okN n (bytesOf P e)) <| K { v := .sl tok (szOf P e) 0 (lenC c), hw := (tok, some ⟨e, c, true⟩) :: frz H (fzT w u), rd := toks w }
          | .sl k z 0 m => (at_ H k).bind fun b => bif b.wr && Nat.beq b.ty e && Nat.beq z (szOf P e) && Nat.blt 0 z && zLen P e && !((toks w).any (Nat.beq k)) && zOk b.c z then grd (Nat.beq (lenC b.c) m) <| (capp b.c u).bind fun c =>
              grd (okN (m + n) (bytesOf P e)) <| K { v := .sl tok z 0 (lenC c), hw := (tok, some ⟨e, c, true⟩) :: (k, none) :: frz H (fzT w u), rd := k :: toks w } else none
          | .tt c => bif zOk c (szOf P e) && Nat.blt 0 (szOf P e) && ttOk P e c && zLen P e then (clen c).bind fun m => (capp c u).bind fun c' => br (Nat.beq n 0) (K { v := .tt c, rd := tok :: toks w }) <|
              grd (okN (m + n) (bytesOf P e)) <| K { v := .sl tok (szOf P e) 0 (lenC c'), hw := (tok, some ⟨e, c', true⟩) :: frz H (fzT w u), rd := toks w } else none
          | _ => none
        else none else none
      | none => none
    | _, _ => none
  | .call { callee := .builtin .min, args, .. } => match args.toList with
    | [x, y] => match ev T x, ev T y with
      | some (.s (.int k a)), some (.s (.int _ b)) => K { v := .s (.int k (min a b)) }
      | _, _ => (scalar P T o).bind fun v => K { v := .s v }
    | _ => (scalar P T o).bind fun v => K { v := .s v }
  | .call { callee := .builtin .max, args, .. } => match args.toList with
    | [x, y] => match ev T x, ev T y with
      | some (.s (.int k a)), some (.s (.int _ b)) => K { v := .s (.int k (max a b)) }
      | _, _ => (scalar P T o).bind fun v => K { v := .s v }
    | _ => (scalar P T o).bind fun v => K { v := .s v }
  | .call { callee := .builtin .copy, args, argTypes } => match args.toList, argTypes.toList with
    | [x, y], t :: _ => match P.underlying t with
      | some (.slice e) => match ev T x with
        | some (.sl k z a n) => (ev T y).bind fun w => (view H w).bind fun u => (at_ H k).bind fun b => (srcC u).bind fun s => (ctake s n).bind fun s =>
            bif b.wr && Nat.beq z 1 && Nat.beq (szOf P e) 1 then (cput b.c a s).bind fun c => K { v := .s (.int .i64 (lenC s)), hw := [(k, some { b with c := c })], rd := k :: toks w } else none
        | _ => none
      | _ => none
    | _, _ => none
  | .call { callee := .builtin .clear, args, argTypes } => match args.toList, argTypes.toList with
    | [x], [t] => match P.underlying t with
      | some (.slice e) => match ev T x with
        | some (.sl k z a n) => (at_ H k).bind fun b => (mkC P e n).bind fun s =>
            bif b.wr && Nat.beq z 1 && Nat.beq (szOf P e) 1 then (cput b.c a s).bind fun c => K { v := .s (.tuple #[]), hw := [(k, some { b with c := c })], rd := [k] } else none
        | _ => none
      | _ => none
    | _, _ => none
  | .call { callee := .value _, .. } | .call { callee := .invoke _ _, .. } => none
  | _ => (scalar P T o).bind fun v => K { v := .s v }
end Go.PM
