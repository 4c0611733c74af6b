/-
  No cell of these rows narrows 'for every input' (looked for: loops, veiled, ifaces, maps, wideKeys, modest, calm, conditions, laid).
  DERIVED. THE GIVEN ROWS OF THIS SEAT. 5 by the template 'for every input the law returns true; each argument reads behind the call as it read before'; 0 by the template 'total and deterministic' (their statements: YtkphabppgpcblaaTotals.lean).
  GIVEN WITH THE SEED: the statements are not yours to turn. If you find one false, say at which input.
  Laid BY PROGRAM, IN A SANDBOX (cutbox-rows.mjs): the forced cells as the released guide's own fill.sh prints them over the translation 4274a6f679bf1961… (all of the seat's roots in one cut). By AI agents, Wed Nov 11 2026. No macro, syntax, notation, axiom, sorry.
-/
import Derived.Test.YtkphabppgpcblaaChecked
import GoSem.Claim
import GoSem.ClaimJoined
import GoSem.ClaimMapViews
import Derived.JoinedTies
import Derived.KernelRfl
namespace Go.Proofs.Ytkphabppgpcblaa
/- THE CELL 'sum', in the pinned program and in every row, IS THE sha256 OF THE DUMP (.gsa) THAT YtkphabppgpcblaaProg.lean LOADS. Nothing in Lean hashes anything: it is a label: what it is worth is what the hold of that sum in a sandbox is worth. -/
noncomputable def Try.pinned : Pinned := { name := "ytkphabppgpcblaa", sum := "4274a6f679bf196178a29f8a4890ee3faa0f049f2f65795dc10b4470212cbad5", checked := Try.checked }
namespace Rows
def none {H : Type} : Left H := { results := [], args := [] }

/-- 'downpourlaw06.RandomNumbers': WHATEVER THE INPUT: true; the input reads as it did. -/
def randomNumbersSpec : ChangeSpec := { name := "randomNumbers", fn := fun _ => fun
  | [d1, d2, d3] => { results := [.lit (.bool true)], args := [d1, d2, d3] }
  | _ => none }
def randomNumbersRow : OpenClaim := { program := "ytkphabppgpcblaa", sum := "4274a6f679bf196178a29f8a4890ee3faa0f049f2f65795dc10b4470212cbad5", func := "downpour/downpourlaw06.RandomNumbers", spec := "randomNumbers", unfollowed := true, recurses := true, named := ["math/bits.divideError", "math/bits.overflowError"], apart := false }
def RandomNumbersSaid : Prop := randomNumbersRow.holds Try.pinned (OpenSpec.ofChange randomNumbersSpec)

/-- ITS FALSE NEIGHBOUR: 'it returns false'. Refute it at one input. -/
def randomNumbersWrong : ChangeSpec := { name := "randomNumbers", fn := fun _ => fun
  | [d1, d2, d3] => { results := [.lit (.bool false)], args := [d1, d2, d3] }
  | _ => none }
def RandomNumbersWrongFalsely : Prop := randomNumbersRow.holds Try.pinned (OpenSpec.ofChange randomNumbersWrong)

/-- 'downpourlaw13.ShardAdds': WHATEVER THE INPUT: true; the input reads as it did. -/
def shardAddsSpec : ChangeSpec := { name := "shardAdds", fn := fun _ => fun
  | [d1, d2, d3, d4, d5, d6] => { results := [.lit (.bool true)], args := [d1, d2, d3, d4, d5, d6] }
  | _ => none }
def shardAddsRow : OpenClaim := { program := "ytkphabppgpcblaa", sum := "4274a6f679bf196178a29f8a4890ee3faa0f049f2f65795dc10b4470212cbad5", func := "downpour/downpourlaw13.ShardAdds", spec := "shardAdds", inPlace := ["slices.overlaps[downpour/api.Symbol]"], unfollowed := true, recurses := true, apart := false }
def ShardAddsSaid : Prop := shardAddsRow.holds Try.pinned (OpenSpec.ofChange shardAddsSpec)

/-- ITS FALSE NEIGHBOUR: 'it returns false'. Refute it at one input. -/
def shardAddsWrong : ChangeSpec := { name := "shardAdds", fn := fun _ => fun
  | [d1, d2, d3, d4, d5, d6] => { results := [.lit (.bool false)], args := [d1, d2, d3, d4, d5, d6] }
  | _ => none }
def ShardAddsWrongFalsely : Prop := shardAddsRow.holds Try.pinned (OpenSpec.ofChange shardAddsWrong)

/-- 'downpourlaw06.RandomOrders': WHATEVER THE INPUT: true; the input reads as it did. -/
def randomOrdersSpec : ChangeSpec := { name := "randomOrders", fn := fun _ => fun
  | [d1, d2, d3] => { results := [.lit (.bool true)], args := [d1, d2, d3] }
  | _ => none }
def randomOrdersRow : OpenClaim := { program := "ytkphabppgpcblaa", sum := "4274a6f679bf196178a29f8a4890ee3faa0f049f2f65795dc10b4470212cbad5", func := "downpour/downpourlaw06.RandomOrders", spec := "randomOrders", unfollowed := true, recurses := true, named := ["math/bits.divideError", "math/bits.overflowError"], apart := false }
def RandomOrdersSaid : Prop := randomOrdersRow.holds Try.pinned (OpenSpec.ofChange randomOrdersSpec)

/-- ITS FALSE NEIGHBOUR: 'it returns false'. Refute it at one input. -/
def randomOrdersWrong : ChangeSpec := { name := "randomOrders", fn := fun _ => fun
  | [d1, d2, d3] => { results := [.lit (.bool false)], args := [d1, d2, d3] }
  | _ => none }
def RandomOrdersWrongFalsely : Prop := randomOrdersRow.holds Try.pinned (OpenSpec.ofChange randomOrdersWrong)

/-- 'downpourlaw06.RandomFew': WHATEVER THE INPUT: true; the input reads as it did. -/
def randomFewSpec : ChangeSpec := { name := "randomFew", fn := fun _ => fun
  | [d1, d2, d3] => { results := [.lit (.bool true)], args := [d1, d2, d3] }
  | _ => none }
def randomFewRow : OpenClaim := { program := "ytkphabppgpcblaa", sum := "4274a6f679bf196178a29f8a4890ee3faa0f049f2f65795dc10b4470212cbad5", func := "downpour/downpourlaw06.RandomFew", spec := "randomFew", unfollowed := true, recurses := true, named := ["math/bits.divideError", "math/bits.overflowError"], apart := false }
def RandomFewSaid : Prop := randomFewRow.holds Try.pinned (OpenSpec.ofChange randomFewSpec)

/-- ITS FALSE NEIGHBOUR: 'it returns false'. Refute it at one input. -/
def randomFewWrong : ChangeSpec := { name := "randomFew", fn := fun _ => fun
  | [d1, d2, d3] => { results := [.lit (.bool false)], args := [d1, d2, d3] }
  | _ => none }
def RandomFewWrongFalsely : Prop := randomFewRow.holds Try.pinned (OpenSpec.ofChange randomFewWrong)

/-- 'downpourlaw06.RandomOnce': WHATEVER THE INPUT: true; the input reads as it did. -/
def randomOnceSpec : ChangeSpec := { name := "randomOnce", fn := fun _ => fun
  | [d1, d2, d3] => { results := [.lit (.bool true)], args := [d1, d2, d3] }
  | _ => none }
def randomOnceRow : OpenClaim := { program := "ytkphabppgpcblaa", sum := "4274a6f679bf196178a29f8a4890ee3faa0f049f2f65795dc10b4470212cbad5", func := "downpour/downpourlaw06.RandomOnce", spec := "randomOnce", unfollowed := true, recurses := true, named := ["math/bits.divideError", "math/bits.overflowError"], apart := false }
def RandomOnceSaid : Prop := randomOnceRow.holds Try.pinned (OpenSpec.ofChange randomOnceSpec)

/-- ITS FALSE NEIGHBOUR: 'it returns false'. Refute it at one input. -/
def randomOnceWrong : ChangeSpec := { name := "randomOnce", fn := fun _ => fun
  | [d1, d2, d3] => { results := [.lit (.bool false)], args := [d1, d2, d3] }
  | _ => none }
def RandomOnceWrongFalsely : Prop := randomOnceRow.holds Try.pinned (OpenSpec.ofChange randomOnceWrong)

/- THE SECOND FORM. 'bulk': how many values and letters a reading holds, each counted each time it is reached (what is shared counts as often as it is met; a slice's spare places count too). A statement '..UptoSaid' is the law's where the arguments, and the package variables that the reading takes, are together of bulk at most 1048576: NARROWER than '..Said'. Prove '..Said' where nothing that the law and all that it calls make is longer than what came in: it says more and counts as full. Else prove '..UptoSaid'. A law counts once. -/
mutual
def uptoBulk {H : Type} : DataW H → Nat
  | .lit (.string bytes) => bytes.length + 1
  | .lit _ => 1
  | .nil => 1
  | .ptr d => uptoBulk d + 1
  | .slice elems spare => uptoBulkAll elems + uptoBulkAll spare + 1
  | .agg parts => uptoBulkAll parts + 1
  | .iface _ d => uptoBulk d + 1
  | .map entries => uptoBulkEntries entries + 1
  | .held _ => 1
def uptoBulkAll {H : Type} : List (DataW H) → Nat
  | [] => 0
  | d :: r => uptoBulk d + uptoBulkAll r
def uptoBulkEntries {H : Type} : List (Lit × DataW H) → Nat
  | [] => 0
  | x :: r => uptoBulkEntry x + uptoBulkEntries r
def uptoBulkEntry {H : Type} : Lit × DataW H → Nat
  | (.string bytes, d) => bytes.length + uptoBulk d + 1
  | (_, d) => uptoBulk d + 1
 end
def uptoSmall : (H : Type) → List (DataW H) → Bool := fun _ ds => decide (uptoBulkAll ds ≤ 1048576)
def OpenSpec.upto (s : _root_.Go.ChangeSpec) : _root_.Go.OpenSpec := { _root_.Go.OpenSpec.ofChange s with cond := some uptoSmall }

/-- 'downpourlaw06.RandomNumbers', WHERE WHAT IT READS IS OF BULK AT MOST 1048576: true; the input reads as it did. -/
def randomNumbersUptoRow : OpenClaim := { program := "ytkphabppgpcblaa", sum := "4274a6f679bf196178a29f8a4890ee3faa0f049f2f65795dc10b4470212cbad5", func := "downpour/downpourlaw06.RandomNumbers", spec := "randomNumbers", unfollowed := true, recurses := true, named := ["math/bits.divideError", "math/bits.overflowError"], apart := false, narrowed := true }
def RandomNumbersUptoSaid : Prop := randomNumbersUptoRow.holds Try.pinned (OpenSpec.upto randomNumbersSpec)

/-- 'downpourlaw13.ShardAdds', WHERE WHAT IT READS IS OF BULK AT MOST 1048576: true; the input reads as it did. -/
def shardAddsUptoRow : OpenClaim := { program := "ytkphabppgpcblaa", sum := "4274a6f679bf196178a29f8a4890ee3faa0f049f2f65795dc10b4470212cbad5", func := "downpour/downpourlaw13.ShardAdds", spec := "shardAdds", inPlace := ["slices.overlaps[downpour/api.Symbol]"], unfollowed := true, recurses := true, apart := false, narrowed := true }
def ShardAddsUptoSaid : Prop := shardAddsUptoRow.holds Try.pinned (OpenSpec.upto shardAddsSpec)

/-- 'downpourlaw06.RandomOrders', WHERE WHAT IT READS IS OF BULK AT MOST 1048576: true; the input reads as it did. -/
def randomOrdersUptoRow : OpenClaim := { program := "ytkphabppgpcblaa", sum := "4274a6f679bf196178a29f8a4890ee3faa0f049f2f65795dc10b4470212cbad5", func := "downpour/downpourlaw06.RandomOrders", spec := "randomOrders", unfollowed := true, recurses := true, named := ["math/bits.divideError", "math/bits.overflowError"], apart := false, narrowed := true }
def RandomOrdersUptoSaid : Prop := randomOrdersUptoRow.holds Try.pinned (OpenSpec.upto randomOrdersSpec)

/-- 'downpourlaw06.RandomFew', WHERE WHAT IT READS IS OF BULK AT MOST 1048576: true; the input reads as it did. -/
def randomFewUptoRow : OpenClaim := { program := "ytkphabppgpcblaa", sum := "4274a6f679bf196178a29f8a4890ee3faa0f049f2f65795dc10b4470212cbad5", func := "downpour/downpourlaw06.RandomFew", spec := "randomFew", unfollowed := true, recurses := true, named := ["math/bits.divideError", "math/bits.overflowError"], apart := false, narrowed := true }
def RandomFewUptoSaid : Prop := randomFewUptoRow.holds Try.pinned (OpenSpec.upto randomFewSpec)

/-- 'downpourlaw06.RandomOnce', WHERE WHAT IT READS IS OF BULK AT MOST 1048576: true; the input reads as it did. -/
def randomOnceUptoRow : OpenClaim := { program := "ytkphabppgpcblaa", sum := "4274a6f679bf196178a29f8a4890ee3faa0f049f2f65795dc10b4470212cbad5", func := "downpour/downpourlaw06.RandomOnce", spec := "randomOnce", unfollowed := true, recurses := true, named := ["math/bits.divideError", "math/bits.overflowError"], apart := false, narrowed := true }
def RandomOnceUptoSaid : Prop := randomOnceUptoRow.holds Try.pinned (OpenSpec.upto randomOnceSpec)

end Rows
end Go.Proofs.Ytkphabppgpcblaa
