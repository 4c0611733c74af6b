/-
  No cell of these rows narrows 'for every input' (looked for: loops, veiled, ifaces, maps, wideKeys, modest, calm, conditions, laid).
  DERIVED. THE GIVEN ROWS OF THIS SEAT. 16 by the template 'for every input the law returns true; each argument reads behind the call as it read before'; 0 by the template 'total and deterministic' (their statements: YtfdcjkhckjnaeaaTotals.lean).
  GIVEN WITH THE SEED: the statements are not yours to turn. If you find one false, say at which input.
  Laid BY PROGRAM, IN A SANDBOX (cutbox-rows.mjs): the forced cells as the released guide's own fill.sh prints them over the translation a0ed043e5808c0c1… (all of the seat's roots in one cut). By AI agents, Wed Nov 11 2026. No macro, syntax, notation, axiom, sorry.
-/
import Derived.Test.YtfdcjkhckjnaeaaChecked
import GoSem.Claim
import GoSem.ClaimJoined
import GoSem.ClaimMapViews
import Derived.JoinedTies
import Derived.KernelRfl
namespace Go.Proofs.Ytfdcjkhckjnaeaa
/- THE CELL 'sum', in the pinned program and in every row, IS THE sha256 OF THE DUMP (.gsa) THAT YtfdcjkhckjnaeaaProg.lean LOADS. Nothing in Lean hashes anything: it is a label: what it is worth is what the hold of that sum in a sandbox is worth. -/
noncomputable def Try.pinned : Pinned := { name := "ytfdcjkhckjnaeaa", sum := "a0ed043e5808c0c167f48eba438ebd23cda93dc0b3dc0cc62803dbd0370b6f4f", checked := Try.checked }
namespace Rows
def none {H : Type} : Left H := { results := [], args := [] }

/-- 'downpourlaw01.BitrowMakes': WHATEVER THE INPUT: true; the input reads as it did. -/
def bitrowMakesSpec : ChangeSpec := { name := "bitrowMakes", fn := fun _ => fun
  | [d1, d2, d3, d4] => { results := [.lit (.bool true)], args := [d1, d2, d3, d4] }
  | _ => none }
def bitrowMakesRow : OpenClaim := { program := "ytfdcjkhckjnaeaa", sum := "a0ed043e5808c0c167f48eba438ebd23cda93dc0b3dc0cc62803dbd0370b6f4f", func := "downpour/downpourlaw01.BitrowMakes", spec := "bitrowMakes", apart := false }
def BitrowMakesSaid : Prop := bitrowMakesRow.holds Try.pinned (OpenSpec.ofChange bitrowMakesSpec)

/-- ITS FALSE NEIGHBOUR: 'it returns false'. Refute it at one input. -/
def bitrowMakesWrong : ChangeSpec := { name := "bitrowMakes", fn := fun _ => fun
  | [d1, d2, d3, d4] => { results := [.lit (.bool false)], args := [d1, d2, d3, d4] }
  | _ => none }
def BitrowMakesWrongFalsely : Prop := bitrowMakesRow.holds Try.pinned (OpenSpec.ofChange bitrowMakesWrong)

/-- 'downpourlaw01.BitrowJoins': WHATEVER THE INPUT: true; the input reads as it did. -/
def bitrowJoinsSpec : ChangeSpec := { name := "bitrowJoins", fn := fun _ => fun
  | [d1, d2] => { results := [.lit (.bool true)], args := [d1, d2] }
  | _ => none }
def bitrowJoinsRow : OpenClaim := { program := "ytfdcjkhckjnaeaa", sum := "a0ed043e5808c0c167f48eba438ebd23cda93dc0b3dc0cc62803dbd0370b6f4f", func := "downpour/downpourlaw01.BitrowJoins", spec := "bitrowJoins", unfollowed := true, recurses := true, apart := false }
def BitrowJoinsSaid : Prop := bitrowJoinsRow.holds Try.pinned (OpenSpec.ofChange bitrowJoinsSpec)

/-- ITS FALSE NEIGHBOUR: 'it returns false'. Refute it at one input. -/
def bitrowJoinsWrong : ChangeSpec := { name := "bitrowJoins", fn := fun _ => fun
  | [d1, d2] => { results := [.lit (.bool false)], args := [d1, d2] }
  | _ => none }
def BitrowJoinsWrongFalsely : Prop := bitrowJoinsRow.holds Try.pinned (OpenSpec.ofChange bitrowJoinsWrong)

/-- 'downpourlaw01.BitrowOrder': WHATEVER THE INPUT: true; the input reads as it did. -/
def bitrowOrderSpec : ChangeSpec := { name := "bitrowOrder", fn := fun _ => fun
  | [d1, d2, d3] => { results := [.lit (.bool true)], args := [d1, d2, d3] }
  | _ => none }
def bitrowOrderRow : OpenClaim := { program := "ytfdcjkhckjnaeaa", sum := "a0ed043e5808c0c167f48eba438ebd23cda93dc0b3dc0cc62803dbd0370b6f4f", func := "downpour/downpourlaw01.BitrowOrder", spec := "bitrowOrder", unfollowed := true, recurses := true, apart := false }
def BitrowOrderSaid : Prop := bitrowOrderRow.holds Try.pinned (OpenSpec.ofChange bitrowOrderSpec)

/-- ITS FALSE NEIGHBOUR: 'it returns false'. Refute it at one input. -/
def bitrowOrderWrong : ChangeSpec := { name := "bitrowOrder", fn := fun _ => fun
  | [d1, d2, d3] => { results := [.lit (.bool false)], args := [d1, d2, d3] }
  | _ => none }
def BitrowOrderWrongFalsely : Prop := bitrowOrderRow.holds Try.pinned (OpenSpec.ofChange bitrowOrderWrong)

/-- 'downpourlaw04.ReduceRows': WHATEVER THE INPUT: true; the input reads as it did. -/
def reduceRowsSpec : ChangeSpec := { name := "reduceRows", fn := fun _ => fun
  | [d] => { results := [.lit (.bool true)], args := [d] }
  | _ => none }
def reduceRowsRow : OpenClaim := { program := "ytfdcjkhckjnaeaa", sum := "a0ed043e5808c0c167f48eba438ebd23cda93dc0b3dc0cc62803dbd0370b6f4f", func := "downpour/downpourlaw04.ReduceRows", spec := "reduceRows", unfollowed := true, recurses := true, apart := false }
def ReduceRowsSaid : Prop := reduceRowsRow.holds Try.pinned (OpenSpec.ofChange reduceRowsSpec)

/-- ITS FALSE NEIGHBOUR: 'it returns false'. Refute it at one input. -/
def reduceRowsWrong : ChangeSpec := { name := "reduceRows", fn := fun _ => fun
  | [d] => { results := [.lit (.bool false)], args := [d] }
  | _ => none }
def ReduceRowsWrongFalsely : Prop := reduceRowsRow.holds Try.pinned (OpenSpec.ofChange reduceRowsWrong)

/-- 'downpourlaw04.ReduceUnique': WHATEVER THE INPUT: true; the input reads as it did. -/
def reduceUniqueSpec : ChangeSpec := { name := "reduceUnique", fn := fun _ => fun
  | [d1, d2, d3] => { results := [.lit (.bool true)], args := [d1, d2, d3] }
  | _ => none }
def reduceUniqueRow : OpenClaim := { program := "ytfdcjkhckjnaeaa", sum := "a0ed043e5808c0c167f48eba438ebd23cda93dc0b3dc0cc62803dbd0370b6f4f", func := "downpour/downpourlaw04.ReduceUnique", spec := "reduceUnique", unfollowed := true, recurses := true, apart := false }
def ReduceUniqueSaid : Prop := reduceUniqueRow.holds Try.pinned (OpenSpec.ofChange reduceUniqueSpec)

/-- ITS FALSE NEIGHBOUR: 'it returns false'. Refute it at one input. -/
def reduceUniqueWrong : ChangeSpec := { name := "reduceUnique", fn := fun _ => fun
  | [d1, d2, d3] => { results := [.lit (.bool false)], args := [d1, d2, d3] }
  | _ => none }
def ReduceUniqueWrongFalsely : Prop := reduceUniqueRow.holds Try.pinned (OpenSpec.ofChange reduceUniqueWrong)

/-- 'downpourlaw03.MatrixTurns': WHATEVER THE INPUT: true; the input reads as it did. -/
def matrixTurnsSpec : ChangeSpec := { name := "matrixTurns", fn := fun _ => fun
  | [d1, d2, d3] => { results := [.lit (.bool true)], args := [d1, d2, d3] }
  | _ => none }
def matrixTurnsRow : OpenClaim := { program := "ytfdcjkhckjnaeaa", sum := "a0ed043e5808c0c167f48eba438ebd23cda93dc0b3dc0cc62803dbd0370b6f4f", func := "downpour/downpourlaw03.MatrixTurns", spec := "matrixTurns", unfollowed := true, recurses := true, apart := false }
def MatrixTurnsSaid : Prop := matrixTurnsRow.holds Try.pinned (OpenSpec.ofChange matrixTurnsSpec)

/-- ITS FALSE NEIGHBOUR: 'it returns false'. Refute it at one input. -/
def matrixTurnsWrong : ChangeSpec := { name := "matrixTurns", fn := fun _ => fun
  | [d1, d2, d3] => { results := [.lit (.bool false)], args := [d1, d2, d3] }
  | _ => none }
def MatrixTurnsWrongFalsely : Prop := matrixTurnsRow.holds Try.pinned (OpenSpec.ofChange matrixTurnsWrong)

/-- 'downpourlaw06.RandomNumbers': WHATEVER THE INPUT: true; the input reads as it did. -/
def randomNumbersSpec : ChangeSpec := { name := "randomNumbers", fn := fun _ => fun
  | [d1, d2, d3] => { results := [.lit (.bool true)], args := [d1, d2, d3] }
  | _ => none }
def randomNumbersRow : OpenClaim := { program := "ytfdcjkhckjnaeaa", sum := "a0ed043e5808c0c167f48eba438ebd23cda93dc0b3dc0cc62803dbd0370b6f4f", func := "downpour/downpourlaw06.RandomNumbers", spec := "randomNumbers", unfollowed := true, recurses := true, named := ["math/bits.divideError", "math/bits.overflowError"], apart := false }
def RandomNumbersSaid : Prop := randomNumbersRow.holds Try.pinned (OpenSpec.ofChange randomNumbersSpec)

/-- ITS FALSE NEIGHBOUR: 'it returns false'. Refute it at one input. -/
def randomNumbersWrong : ChangeSpec := { name := "randomNumbers", fn := fun _ => fun
  | [d1, d2, d3] => { results := [.lit (.bool false)], args := [d1, d2, d3] }
  | _ => none }
def RandomNumbersWrongFalsely : Prop := randomNumbersRow.holds Try.pinned (OpenSpec.ofChange randomNumbersWrong)

/-- 'downpourlaw04.ReduceSpans': WHATEVER THE INPUT: true; the input reads as it did. -/
def reduceSpansSpec : ChangeSpec := { name := "reduceSpans", fn := fun _ => fun
  | [d1, d2] => { results := [.lit (.bool true)], args := [d1, d2] }
  | _ => none }
def reduceSpansRow : OpenClaim := { program := "ytfdcjkhckjnaeaa", sum := "a0ed043e5808c0c167f48eba438ebd23cda93dc0b3dc0cc62803dbd0370b6f4f", func := "downpour/downpourlaw04.ReduceSpans", spec := "reduceSpans", unfollowed := true, recurses := true, apart := false }
def ReduceSpansSaid : Prop := reduceSpansRow.holds Try.pinned (OpenSpec.ofChange reduceSpansSpec)

/-- ITS FALSE NEIGHBOUR: 'it returns false'. Refute it at one input. -/
def reduceSpansWrong : ChangeSpec := { name := "reduceSpans", fn := fun _ => fun
  | [d1, d2] => { results := [.lit (.bool false)], args := [d1, d2] }
  | _ => none }
def ReduceSpansWrongFalsely : Prop := reduceSpansRow.holds Try.pinned (OpenSpec.ofChange reduceSpansWrong)

/-- 'downpourlaw13.ShardAdds': WHATEVER THE INPUT: true; the input reads as it did. -/
def shardAddsSpec : ChangeSpec := { name := "shardAdds", fn := fun _ => fun
  | [d1, d2, d3, d4, d5, d6] => { results := [.lit (.bool true)], args := [d1, d2, d3, d4, d5, d6] }
  | _ => none }
def shardAddsRow : OpenClaim := { program := "ytfdcjkhckjnaeaa", sum := "a0ed043e5808c0c167f48eba438ebd23cda93dc0b3dc0cc62803dbd0370b6f4f", func := "downpour/downpourlaw13.ShardAdds", spec := "shardAdds", inPlace := ["slices.overlaps[downpour/api.Symbol]"], unfollowed := true, recurses := true, apart := false }
def ShardAddsSaid : Prop := shardAddsRow.holds Try.pinned (OpenSpec.ofChange shardAddsSpec)

/-- ITS FALSE NEIGHBOUR: 'it returns false'. Refute it at one input. -/
def shardAddsWrong : ChangeSpec := { name := "shardAdds", fn := fun _ => fun
  | [d1, d2, d3, d4, d5, d6] => { results := [.lit (.bool false)], args := [d1, d2, d3, d4, d5, d6] }
  | _ => none }
def ShardAddsWrongFalsely : Prop := shardAddsRow.holds Try.pinned (OpenSpec.ofChange shardAddsWrong)

/-- 'downpourlaw06.RandomOrders': WHATEVER THE INPUT: true; the input reads as it did. -/
def randomOrdersSpec : ChangeSpec := { name := "randomOrders", fn := fun _ => fun
  | [d1, d2, d3] => { results := [.lit (.bool true)], args := [d1, d2, d3] }
  | _ => none }
def randomOrdersRow : OpenClaim := { program := "ytfdcjkhckjnaeaa", sum := "a0ed043e5808c0c167f48eba438ebd23cda93dc0b3dc0cc62803dbd0370b6f4f", func := "downpour/downpourlaw06.RandomOrders", spec := "randomOrders", unfollowed := true, recurses := true, named := ["math/bits.divideError", "math/bits.overflowError"], apart := false }
def RandomOrdersSaid : Prop := randomOrdersRow.holds Try.pinned (OpenSpec.ofChange randomOrdersSpec)

/-- ITS FALSE NEIGHBOUR: 'it returns false'. Refute it at one input. -/
def randomOrdersWrong : ChangeSpec := { name := "randomOrders", fn := fun _ => fun
  | [d1, d2, d3] => { results := [.lit (.bool false)], args := [d1, d2, d3] }
  | _ => none }
def RandomOrdersWrongFalsely : Prop := randomOrdersRow.holds Try.pinned (OpenSpec.ofChange randomOrdersWrong)

/-- 'downpourlaw06.RandomFew': WHATEVER THE INPUT: true; the input reads as it did. -/
def randomFewSpec : ChangeSpec := { name := "randomFew", fn := fun _ => fun
  | [d1, d2, d3] => { results := [.lit (.bool true)], args := [d1, d2, d3] }
  | _ => none }
def randomFewRow : OpenClaim := { program := "ytfdcjkhckjnaeaa", sum := "a0ed043e5808c0c167f48eba438ebd23cda93dc0b3dc0cc62803dbd0370b6f4f", func := "downpour/downpourlaw06.RandomFew", spec := "randomFew", unfollowed := true, recurses := true, named := ["math/bits.divideError", "math/bits.overflowError"], apart := false }
def RandomFewSaid : Prop := randomFewRow.holds Try.pinned (OpenSpec.ofChange randomFewSpec)

/-- ITS FALSE NEIGHBOUR: 'it returns false'. Refute it at one input. -/
def randomFewWrong : ChangeSpec := { name := "randomFew", fn := fun _ => fun
  | [d1, d2, d3] => { results := [.lit (.bool false)], args := [d1, d2, d3] }
  | _ => none }
def RandomFewWrongFalsely : Prop := randomFewRow.holds Try.pinned (OpenSpec.ofChange randomFewWrong)

/-- 'downpourlaw18.ObjectOpens': WHATEVER THE INPUT: true; the input reads as it did. -/
def objectOpensSpec : ChangeSpec := { name := "objectOpens", fn := fun _ => fun
  | [d1, d2, d3] => { results := [.lit (.bool true)], args := [d1, d2, d3] }
  | _ => none }
def objectOpensRow : OpenClaim := { program := "ytfdcjkhckjnaeaa", sum := "a0ed043e5808c0c167f48eba438ebd23cda93dc0b3dc0cc62803dbd0370b6f4f", func := "downpour/downpourlaw18.ObjectOpens", spec := "objectOpens", unfollowed := true, recurses := true, apart := false }
def ObjectOpensSaid : Prop := objectOpensRow.holds Try.pinned (OpenSpec.ofChange objectOpensSpec)

/-- ITS FALSE NEIGHBOUR: 'it returns false'. Refute it at one input. -/
def objectOpensWrong : ChangeSpec := { name := "objectOpens", fn := fun _ => fun
  | [d1, d2, d3] => { results := [.lit (.bool false)], args := [d1, d2, d3] }
  | _ => none }
def ObjectOpensWrongFalsely : Prop := objectOpensRow.holds Try.pinned (OpenSpec.ofChange objectOpensWrong)

/-- 'downpourlaw12.EquationsAdd': WHATEVER THE INPUT: true; the input reads as it did. -/
def equationsAddSpec : ChangeSpec := { name := "equationsAdd", fn := fun _ => fun
  | [d1, d2, d3, d4, d5, d6] => { results := [.lit (.bool true)], args := [d1, d2, d3, d4, d5, d6] }
  | _ => none }
def equationsAddRow : OpenClaim := { program := "ytfdcjkhckjnaeaa", sum := "a0ed043e5808c0c167f48eba438ebd23cda93dc0b3dc0cc62803dbd0370b6f4f", func := "downpour/downpourlaw12.EquationsAdd", spec := "equationsAdd", unfollowed := true, recurses := true, apart := false }
def EquationsAddSaid : Prop := equationsAddRow.holds Try.pinned (OpenSpec.ofChange equationsAddSpec)

/-- ITS FALSE NEIGHBOUR: 'it returns false'. Refute it at one input. -/
def equationsAddWrong : ChangeSpec := { name := "equationsAdd", fn := fun _ => fun
  | [d1, d2, d3, d4, d5, d6] => { results := [.lit (.bool false)], args := [d1, d2, d3, d4, d5, d6] }
  | _ => none }
def EquationsAddWrongFalsely : Prop := equationsAddRow.holds Try.pinned (OpenSpec.ofChange equationsAddWrong)

/-- 'downpourlaw06.RandomOnce': WHATEVER THE INPUT: true; the input reads as it did. -/
def randomOnceSpec : ChangeSpec := { name := "randomOnce", fn := fun _ => fun
  | [d1, d2, d3] => { results := [.lit (.bool true)], args := [d1, d2, d3] }
  | _ => none }
def randomOnceRow : OpenClaim := { program := "ytfdcjkhckjnaeaa", sum := "a0ed043e5808c0c167f48eba438ebd23cda93dc0b3dc0cc62803dbd0370b6f4f", func := "downpour/downpourlaw06.RandomOnce", spec := "randomOnce", unfollowed := true, recurses := true, named := ["math/bits.divideError", "math/bits.overflowError"], apart := false }
def RandomOnceSaid : Prop := randomOnceRow.holds Try.pinned (OpenSpec.ofChange randomOnceSpec)

/-- ITS FALSE NEIGHBOUR: 'it returns false'. Refute it at one input. -/
def randomOnceWrong : ChangeSpec := { name := "randomOnce", fn := fun _ => fun
  | [d1, d2, d3] => { results := [.lit (.bool false)], args := [d1, d2, d3] }
  | _ => none }
def RandomOnceWrongFalsely : Prop := randomOnceRow.holds Try.pinned (OpenSpec.ofChange randomOnceWrong)

/-- 'downpourlaw08.NeighboursTell': WHATEVER THE INPUT: true; the input reads as it did. -/
def neighboursTellSpec : ChangeSpec := { name := "neighboursTell", fn := fun _ => fun
  | [d1, d2] => { results := [.lit (.bool true)], args := [d1, d2] }
  | _ => none }
def neighboursTellRow : OpenClaim := { program := "ytfdcjkhckjnaeaa", sum := "a0ed043e5808c0c167f48eba438ebd23cda93dc0b3dc0cc62803dbd0370b6f4f", func := "downpour/downpourlaw08.NeighboursTell", spec := "neighboursTell", unfollowed := true, recurses := true, named := ["math/bits.divideError", "math/bits.overflowError"], apart := false }
def NeighboursTellSaid : Prop := neighboursTellRow.holds Try.pinned (OpenSpec.ofChange neighboursTellSpec)

/-- ITS FALSE NEIGHBOUR: 'it returns false'. Refute it at one input. -/
def neighboursTellWrong : ChangeSpec := { name := "neighboursTell", fn := fun _ => fun
  | [d1, d2] => { results := [.lit (.bool false)], args := [d1, d2] }
  | _ => none }
def NeighboursTellWrongFalsely : Prop := neighboursTellRow.holds Try.pinned (OpenSpec.ofChange neighboursTellWrong)

/-- 'downpourlaw08.NeighboursRows': WHATEVER THE INPUT: true; the input reads as it did. -/
def neighboursRowsSpec : ChangeSpec := { name := "neighboursRows", fn := fun _ => fun
  | [d1, d2] => { results := [.lit (.bool true)], args := [d1, d2] }
  | _ => none }
def neighboursRowsRow : OpenClaim := { program := "ytfdcjkhckjnaeaa", sum := "a0ed043e5808c0c167f48eba438ebd23cda93dc0b3dc0cc62803dbd0370b6f4f", func := "downpour/downpourlaw08.NeighboursRows", spec := "neighboursRows", unfollowed := true, recurses := true, named := ["math/bits.divideError", "math/bits.overflowError"], apart := false }
def NeighboursRowsSaid : Prop := neighboursRowsRow.holds Try.pinned (OpenSpec.ofChange neighboursRowsSpec)

/-- ITS FALSE NEIGHBOUR: 'it returns false'. Refute it at one input. -/
def neighboursRowsWrong : ChangeSpec := { name := "neighboursRows", fn := fun _ => fun
  | [d1, d2] => { results := [.lit (.bool false)], args := [d1, d2] }
  | _ => none }
def NeighboursRowsWrongFalsely : Prop := neighboursRowsRow.holds Try.pinned (OpenSpec.ofChange neighboursRowsWrong)

/- THE SECOND FORM. 'bulk': how many values and letters a reading holds, each counted each time it is reached (what is shared counts as often as it is met; a slice's spare places count too). A statement '..UptoSaid' is the law's where the arguments, and the package variables that the reading takes, are together of bulk at most 1048576: NARROWER than '..Said'. Prove '..Said' where nothing that the law and all that it calls make is longer than what came in: it says more and counts as full. Else prove '..UptoSaid'. A law counts once. -/
mutual
def uptoBulk {H : Type} : DataW H → Nat
  | .lit (.string bytes) => bytes.length + 1
  | .lit _ => 1
  | .nil => 1
  | .ptr d => uptoBulk d + 1
  | .slice elems spare => uptoBulkAll elems + uptoBulkAll spare + 1
  | .agg parts => uptoBulkAll parts + 1
  | .iface _ d => uptoBulk d + 1
  | .map entries => uptoBulkEntries entries + 1
  | .held _ => 1
def uptoBulkAll {H : Type} : List (DataW H) → Nat
  | [] => 0
  | d :: r => uptoBulk d + uptoBulkAll r
def uptoBulkEntries {H : Type} : List (Lit × DataW H) → Nat
  | [] => 0
  | x :: r => uptoBulkEntry x + uptoBulkEntries r
def uptoBulkEntry {H : Type} : Lit × DataW H → Nat
  | (.string bytes, d) => bytes.length + uptoBulk d + 1
  | (_, d) => uptoBulk d + 1
 end
def uptoSmall : (H : Type) → List (DataW H) → Bool := fun _ ds => decide (uptoBulkAll ds ≤ 1048576)
def OpenSpec.upto (s : _root_.Go.ChangeSpec) : _root_.Go.OpenSpec := { _root_.Go.OpenSpec.ofChange s with cond := some uptoSmall }

/-- 'downpourlaw01.BitrowMakes', WHERE WHAT IT READS IS OF BULK AT MOST 1048576: true; the input reads as it did. -/
def bitrowMakesUptoRow : OpenClaim := { program := "ytfdcjkhckjnaeaa", sum := "a0ed043e5808c0c167f48eba438ebd23cda93dc0b3dc0cc62803dbd0370b6f4f", func := "downpour/downpourlaw01.BitrowMakes", spec := "bitrowMakes", apart := false, narrowed := true }
def BitrowMakesUptoSaid : Prop := bitrowMakesUptoRow.holds Try.pinned (OpenSpec.upto bitrowMakesSpec)

/-- 'downpourlaw01.BitrowJoins', WHERE WHAT IT READS IS OF BULK AT MOST 1048576: true; the input reads as it did. -/
def bitrowJoinsUptoRow : OpenClaim := { program := "ytfdcjkhckjnaeaa", sum := "a0ed043e5808c0c167f48eba438ebd23cda93dc0b3dc0cc62803dbd0370b6f4f", func := "downpour/downpourlaw01.BitrowJoins", spec := "bitrowJoins", unfollowed := true, recurses := true, apart := false, narrowed := true }
def BitrowJoinsUptoSaid : Prop := bitrowJoinsUptoRow.holds Try.pinned (OpenSpec.upto bitrowJoinsSpec)

/-- 'downpourlaw01.BitrowOrder', WHERE WHAT IT READS IS OF BULK AT MOST 1048576: true; the input reads as it did. -/
def bitrowOrderUptoRow : OpenClaim := { program := "ytfdcjkhckjnaeaa", sum := "a0ed043e5808c0c167f48eba438ebd23cda93dc0b3dc0cc62803dbd0370b6f4f", func := "downpour/downpourlaw01.BitrowOrder", spec := "bitrowOrder", unfollowed := true, recurses := true, apart := false, narrowed := true }
def BitrowOrderUptoSaid : Prop := bitrowOrderUptoRow.holds Try.pinned (OpenSpec.upto bitrowOrderSpec)

/-- 'downpourlaw04.ReduceRows', WHERE WHAT IT READS IS OF BULK AT MOST 1048576: true; the input reads as it did. -/
def reduceRowsUptoRow : OpenClaim := { program := "ytfdcjkhckjnaeaa", sum := "a0ed043e5808c0c167f48eba438ebd23cda93dc0b3dc0cc62803dbd0370b6f4f", func := "downpour/downpourlaw04.ReduceRows", spec := "reduceRows", unfollowed := true, recurses := true, apart := false, narrowed := true }
def ReduceRowsUptoSaid : Prop := reduceRowsUptoRow.holds Try.pinned (OpenSpec.upto reduceRowsSpec)

/-- 'downpourlaw04.ReduceUnique', WHERE WHAT IT READS IS OF BULK AT MOST 1048576: true; the input reads as it did. -/
def reduceUniqueUptoRow : OpenClaim := { program := "ytfdcjkhckjnaeaa", sum := "a0ed043e5808c0c167f48eba438ebd23cda93dc0b3dc0cc62803dbd0370b6f4f", func := "downpour/downpourlaw04.ReduceUnique", spec := "reduceUnique", unfollowed := true, recurses := true, apart := false, narrowed := true }
def ReduceUniqueUptoSaid : Prop := reduceUniqueUptoRow.holds Try.pinned (OpenSpec.upto reduceUniqueSpec)

/-- 'downpourlaw03.MatrixTurns', WHERE WHAT IT READS IS OF BULK AT MOST 1048576: true; the input reads as it did. -/
def matrixTurnsUptoRow : OpenClaim := { program := "ytfdcjkhckjnaeaa", sum := "a0ed043e5808c0c167f48eba438ebd23cda93dc0b3dc0cc62803dbd0370b6f4f", func := "downpour/downpourlaw03.MatrixTurns", spec := "matrixTurns", unfollowed := true, recurses := true, apart := false, narrowed := true }
def MatrixTurnsUptoSaid : Prop := matrixTurnsUptoRow.holds Try.pinned (OpenSpec.upto matrixTurnsSpec)

/-- 'downpourlaw06.RandomNumbers', WHERE WHAT IT READS IS OF BULK AT MOST 1048576: true; the input reads as it did. -/
def randomNumbersUptoRow : OpenClaim := { program := "ytfdcjkhckjnaeaa", sum := "a0ed043e5808c0c167f48eba438ebd23cda93dc0b3dc0cc62803dbd0370b6f4f", func := "downpour/downpourlaw06.RandomNumbers", spec := "randomNumbers", unfollowed := true, recurses := true, named := ["math/bits.divideError", "math/bits.overflowError"], apart := false, narrowed := true }
def RandomNumbersUptoSaid : Prop := randomNumbersUptoRow.holds Try.pinned (OpenSpec.upto randomNumbersSpec)

/-- 'downpourlaw04.ReduceSpans', WHERE WHAT IT READS IS OF BULK AT MOST 1048576: true; the input reads as it did. -/
def reduceSpansUptoRow : OpenClaim := { program := "ytfdcjkhckjnaeaa", sum := "a0ed043e5808c0c167f48eba438ebd23cda93dc0b3dc0cc62803dbd0370b6f4f", func := "downpour/downpourlaw04.ReduceSpans", spec := "reduceSpans", unfollowed := true, recurses := true, apart := false, narrowed := true }
def ReduceSpansUptoSaid : Prop := reduceSpansUptoRow.holds Try.pinned (OpenSpec.upto reduceSpansSpec)

/-- 'downpourlaw13.ShardAdds', WHERE WHAT IT READS IS OF BULK AT MOST 1048576: true; the input reads as it did. -/
def shardAddsUptoRow : OpenClaim := { program := "ytfdcjkhckjnaeaa", sum := "a0ed043e5808c0c167f48eba438ebd23cda93dc0b3dc0cc62803dbd0370b6f4f", func := "downpour/downpourlaw13.ShardAdds", spec := "shardAdds", inPlace := ["slices.overlaps[downpour/api.Symbol]"], unfollowed := true, recurses := true, apart := false, narrowed := true }
def ShardAddsUptoSaid : Prop := shardAddsUptoRow.holds Try.pinned (OpenSpec.upto shardAddsSpec)

/-- 'downpourlaw06.RandomOrders', WHERE WHAT IT READS IS OF BULK AT MOST 1048576: true; the input reads as it did. -/
def randomOrdersUptoRow : OpenClaim := { program := "ytfdcjkhckjnaeaa", sum := "a0ed043e5808c0c167f48eba438ebd23cda93dc0b3dc0cc62803dbd0370b6f4f", func := "downpour/downpourlaw06.RandomOrders", spec := "randomOrders", unfollowed := true, recurses := true, named := ["math/bits.divideError", "math/bits.overflowError"], apart := false, narrowed := true }
def RandomOrdersUptoSaid : Prop := randomOrdersUptoRow.holds Try.pinned (OpenSpec.upto randomOrdersSpec)

/-- 'downpourlaw06.RandomFew', WHERE WHAT IT READS IS OF BULK AT MOST 1048576: true; the input reads as it did. -/
def randomFewUptoRow : OpenClaim := { program := "ytfdcjkhckjnaeaa", sum := "a0ed043e5808c0c167f48eba438ebd23cda93dc0b3dc0cc62803dbd0370b6f4f", func := "downpour/downpourlaw06.RandomFew", spec := "randomFew", unfollowed := true, recurses := true, named := ["math/bits.divideError", "math/bits.overflowError"], apart := false, narrowed := true }
def RandomFewUptoSaid : Prop := randomFewUptoRow.holds Try.pinned (OpenSpec.upto randomFewSpec)

/-- 'downpourlaw18.ObjectOpens', WHERE WHAT IT READS IS OF BULK AT MOST 1048576: true; the input reads as it did. -/
def objectOpensUptoRow : OpenClaim := { program := "ytfdcjkhckjnaeaa", sum := "a0ed043e5808c0c167f48eba438ebd23cda93dc0b3dc0cc62803dbd0370b6f4f", func := "downpour/downpourlaw18.ObjectOpens", spec := "objectOpens", unfollowed := true, recurses := true, apart := false, narrowed := true }
def ObjectOpensUptoSaid : Prop := objectOpensUptoRow.holds Try.pinned (OpenSpec.upto objectOpensSpec)

/-- 'downpourlaw12.EquationsAdd', WHERE WHAT IT READS IS OF BULK AT MOST 1048576: true; the input reads as it did. -/
def equationsAddUptoRow : OpenClaim := { program := "ytfdcjkhckjnaeaa", sum := "a0ed043e5808c0c167f48eba438ebd23cda93dc0b3dc0cc62803dbd0370b6f4f", func := "downpour/downpourlaw12.EquationsAdd", spec := "equationsAdd", unfollowed := true, recurses := true, apart := false, narrowed := true }
def EquationsAddUptoSaid : Prop := equationsAddUptoRow.holds Try.pinned (OpenSpec.upto equationsAddSpec)

/-- 'downpourlaw06.RandomOnce', WHERE WHAT IT READS IS OF BULK AT MOST 1048576: true; the input reads as it did. -/
def randomOnceUptoRow : OpenClaim := { program := "ytfdcjkhckjnaeaa", sum := "a0ed043e5808c0c167f48eba438ebd23cda93dc0b3dc0cc62803dbd0370b6f4f", func := "downpour/downpourlaw06.RandomOnce", spec := "randomOnce", unfollowed := true, recurses := true, named := ["math/bits.divideError", "math/bits.overflowError"], apart := false, narrowed := true }
def RandomOnceUptoSaid : Prop := randomOnceUptoRow.holds Try.pinned (OpenSpec.upto randomOnceSpec)

/-- 'downpourlaw08.NeighboursTell', WHERE WHAT IT READS IS OF BULK AT MOST 1048576: true; the input reads as it did. -/
def neighboursTellUptoRow : OpenClaim := { program := "ytfdcjkhckjnaeaa", sum := "a0ed043e5808c0c167f48eba438ebd23cda93dc0b3dc0cc62803dbd0370b6f4f", func := "downpour/downpourlaw08.NeighboursTell", spec := "neighboursTell", unfollowed := true, recurses := true, named := ["math/bits.divideError", "math/bits.overflowError"], apart := false, narrowed := true }
def NeighboursTellUptoSaid : Prop := neighboursTellUptoRow.holds Try.pinned (OpenSpec.upto neighboursTellSpec)

/-- 'downpourlaw08.NeighboursRows', WHERE WHAT IT READS IS OF BULK AT MOST 1048576: true; the input reads as it did. -/
def neighboursRowsUptoRow : OpenClaim := { program := "ytfdcjkhckjnaeaa", sum := "a0ed043e5808c0c167f48eba438ebd23cda93dc0b3dc0cc62803dbd0370b6f4f", func := "downpour/downpourlaw08.NeighboursRows", spec := "neighboursRows", unfollowed := true, recurses := true, named := ["math/bits.divideError", "math/bits.overflowError"], apart := false, narrowed := true }
def NeighboursRowsUptoSaid : Prop := neighboursRowsUptoRow.holds Try.pinned (OpenSpec.upto neighboursRowsSpec)

end Rows
end Go.Proofs.Ytfdcjkhckjnaeaa
