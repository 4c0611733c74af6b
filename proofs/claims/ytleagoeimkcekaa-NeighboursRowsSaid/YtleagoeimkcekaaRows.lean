/-
  No cell of these rows narrows 'for every input' (looked for: loops, veiled, ifaces, maps, wideKeys, modest, calm, conditions, laid).
  DERIVED. THE GIVEN ROWS OF THIS SEAT. 3 by the template 'for every input the law returns true; each argument reads behind the call as it read before'; 0 by the template 'total and deterministic' (their statements: YtleagoeimkcekaaTotals.lean).
  GIVEN WITH THE SEED: the statements are not yours to turn. If you find one false, say at which input.
  Laid BY PROGRAM, IN A SANDBOX (cutbox-rows.mjs): the forced cells as the released guide's own fill.sh prints them over the translation d9d56a650b5783da… (all of the seat's roots in one cut). By AI agents, Wed Nov 11 2026. No macro, syntax, notation, axiom, sorry.
-/
import Derived.Test.YtleagoeimkcekaaChecked
import GoSem.Claim
import GoSem.ClaimJoined
import GoSem.ClaimMapViews
import Derived.JoinedTies
import Derived.KernelRfl
namespace Go.Proofs.Ytleagoeimkcekaa
/- THE CELL 'sum', in the pinned program and in every row, IS THE sha256 OF THE DUMP (.gsa) THAT YtleagoeimkcekaaProg.lean LOADS. Nothing in Lean hashes anything: it is a label: what it is worth is what the hold of that sum in a sandbox is worth. -/
noncomputable def Try.pinned : Pinned := { name := "ytleagoeimkcekaa", sum := "d9d56a650b5783dadf31342933851cfb97027776f91914233207ad4d4e85160d", checked := Try.checked }
namespace Rows
def none {H : Type} : Left H := { results := [], args := [] }

/-- 'downpourlaw08.NeighboursTell': WHATEVER THE INPUT: true; the input reads as it did. -/
def neighboursTellSpec : ChangeSpec := { name := "neighboursTell", fn := fun _ => fun
  | [d1, d2] => { results := [.lit (.bool true)], args := [d1, d2] }
  | _ => none }
def neighboursTellRow : OpenClaim := { program := "ytleagoeimkcekaa", sum := "d9d56a650b5783dadf31342933851cfb97027776f91914233207ad4d4e85160d", func := "downpour/downpourlaw08.NeighboursTell", spec := "neighboursTell", unfollowed := true, recurses := true, named := ["math/bits.divideError", "math/bits.overflowError"], apart := false }
def NeighboursTellSaid : Prop := neighboursTellRow.holds Try.pinned (OpenSpec.ofChange neighboursTellSpec)

/-- ITS FALSE NEIGHBOUR: 'it returns false'. Refute it at one input. -/
def neighboursTellWrong : ChangeSpec := { name := "neighboursTell", fn := fun _ => fun
  | [d1, d2] => { results := [.lit (.bool false)], args := [d1, d2] }
  | _ => none }
def NeighboursTellWrongFalsely : Prop := neighboursTellRow.holds Try.pinned (OpenSpec.ofChange neighboursTellWrong)

/-- 'downpourlaw08.NeighboursRows': WHATEVER THE INPUT: true; the input reads as it did. -/
def neighboursRowsSpec : ChangeSpec := { name := "neighboursRows", fn := fun _ => fun
  | [d1, d2] => { results := [.lit (.bool true)], args := [d1, d2] }
  | _ => none }
def neighboursRowsRow : OpenClaim := { program := "ytleagoeimkcekaa", sum := "d9d56a650b5783dadf31342933851cfb97027776f91914233207ad4d4e85160d", func := "downpour/downpourlaw08.NeighboursRows", spec := "neighboursRows", unfollowed := true, recurses := true, named := ["math/bits.divideError", "math/bits.overflowError"], apart := false }
def NeighboursRowsSaid : Prop := neighboursRowsRow.holds Try.pinned (OpenSpec.ofChange neighboursRowsSpec)

/-- ITS FALSE NEIGHBOUR: 'it returns false'. Refute it at one input. -/
def neighboursRowsWrong : ChangeSpec := { name := "neighboursRows", fn := fun _ => fun
  | [d1, d2] => { results := [.lit (.bool false)], args := [d1, d2] }
  | _ => none }
def NeighboursRowsWrongFalsely : Prop := neighboursRowsRow.holds Try.pinned (OpenSpec.ofChange neighboursRowsWrong)

/-- 'downpourlaw13.ShardAdds': WHATEVER THE INPUT: true; the input reads as it did. -/
def shardAddsSpec : ChangeSpec := { name := "shardAdds", fn := fun _ => fun
  | [d1, d2, d3, d4, d5, d6] => { results := [.lit (.bool true)], args := [d1, d2, d3, d4, d5, d6] }
  | _ => none }
def shardAddsRow : OpenClaim := { program := "ytleagoeimkcekaa", sum := "d9d56a650b5783dadf31342933851cfb97027776f91914233207ad4d4e85160d", func := "downpour/downpourlaw13.ShardAdds", spec := "shardAdds", inPlace := ["slices.overlaps[downpour/api.Symbol]"], unfollowed := true, recurses := true, apart := false }
def ShardAddsSaid : Prop := shardAddsRow.holds Try.pinned (OpenSpec.ofChange shardAddsSpec)

/-- ITS FALSE NEIGHBOUR: 'it returns false'. Refute it at one input. -/
def shardAddsWrong : ChangeSpec := { name := "shardAdds", fn := fun _ => fun
  | [d1, d2, d3, d4, d5, d6] => { results := [.lit (.bool false)], args := [d1, d2, d3, d4, d5, d6] }
  | _ => none }
def ShardAddsWrongFalsely : Prop := shardAddsRow.holds Try.pinned (OpenSpec.ofChange shardAddsWrong)

/- THE SECOND FORM. 'bulk': how many values and letters a reading holds, each counted each time it is reached (what is shared counts as often as it is met; a slice's spare places count too). A statement '..UptoSaid' is the law's where the arguments, and the package variables that the reading takes, are together of bulk at most 1048576: NARROWER than '..Said'. Prove '..Said' where nothing that the law and all that it calls make is longer than what came in: it says more and counts as full. Else prove '..UptoSaid'. A law counts once. -/
mutual
def uptoBulk {H : Type} : DataW H → Nat
  | .lit (.string bytes) => bytes.length + 1
  | .lit _ => 1
  | .nil => 1
  | .ptr d => uptoBulk d + 1
  | .slice elems spare => uptoBulkAll elems + uptoBulkAll spare + 1
  | .agg parts => uptoBulkAll parts + 1
  | .iface _ d => uptoBulk d + 1
  | .map entries => uptoBulkEntries entries + 1
  | .held _ => 1
def uptoBulkAll {H : Type} : List (DataW H) → Nat
  | [] => 0
  | d :: r => uptoBulk d + uptoBulkAll r
def uptoBulkEntries {H : Type} : List (Lit × DataW H) → Nat
  | [] => 0
  | x :: r => uptoBulkEntry x + uptoBulkEntries r
def uptoBulkEntry {H : Type} : Lit × DataW H → Nat
  | (.string bytes, d) => bytes.length + uptoBulk d + 1
  | (_, d) => uptoBulk d + 1
 end
def uptoSmall : (H : Type) → List (DataW H) → Bool := fun _ ds => decide (uptoBulkAll ds ≤ 1048576)
def OpenSpec.upto (s : _root_.Go.ChangeSpec) : _root_.Go.OpenSpec := { _root_.Go.OpenSpec.ofChange s with cond := some uptoSmall }

/-- 'downpourlaw08.NeighboursTell', WHERE WHAT IT READS IS OF BULK AT MOST 1048576: true; the input reads as it did. -/
def neighboursTellUptoRow : OpenClaim := { program := "ytleagoeimkcekaa", sum := "d9d56a650b5783dadf31342933851cfb97027776f91914233207ad4d4e85160d", func := "downpour/downpourlaw08.NeighboursTell", spec := "neighboursTell", unfollowed := true, recurses := true, named := ["math/bits.divideError", "math/bits.overflowError"], apart := false, narrowed := true }
def NeighboursTellUptoSaid : Prop := neighboursTellUptoRow.holds Try.pinned (OpenSpec.upto neighboursTellSpec)

/-- 'downpourlaw08.NeighboursRows', WHERE WHAT IT READS IS OF BULK AT MOST 1048576: true; the input reads as it did. -/
def neighboursRowsUptoRow : OpenClaim := { program := "ytleagoeimkcekaa", sum := "d9d56a650b5783dadf31342933851cfb97027776f91914233207ad4d4e85160d", func := "downpour/downpourlaw08.NeighboursRows", spec := "neighboursRows", unfollowed := true, recurses := true, named := ["math/bits.divideError", "math/bits.overflowError"], apart := false, narrowed := true }
def NeighboursRowsUptoSaid : Prop := neighboursRowsUptoRow.holds Try.pinned (OpenSpec.upto neighboursRowsSpec)

/-- 'downpourlaw13.ShardAdds', WHERE WHAT IT READS IS OF BULK AT MOST 1048576: true; the input reads as it did. -/
def shardAddsUptoRow : OpenClaim := { program := "ytleagoeimkcekaa", sum := "d9d56a650b5783dadf31342933851cfb97027776f91914233207ad4d4e85160d", func := "downpour/downpourlaw13.ShardAdds", spec := "shardAdds", inPlace := ["slices.overlaps[downpour/api.Symbol]"], unfollowed := true, recurses := true, apart := false, narrowed := true }
def ShardAddsUptoSaid : Prop := shardAddsUptoRow.holds Try.pinned (OpenSpec.upto shardAddsSpec)

end Rows
end Go.Proofs.Ytleagoeimkcekaa
