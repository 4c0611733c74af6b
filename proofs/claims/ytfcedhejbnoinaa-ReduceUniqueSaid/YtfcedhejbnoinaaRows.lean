/-
  No cell of these rows narrows 'for every input' (looked for: loops, veiled, ifaces, maps, wideKeys, modest, calm, conditions, laid).
  DERIVED. THE GIVEN ROWS OF THIS SEAT. 4 by the template 'for every input the law returns true; each argument reads behind the call as it read before'; 0 by the template 'total and deterministic' (their statements: YtfcedhejbnoinaaTotals.lean).
  GIVEN WITH THE SEED: the statements are not yours to turn. If you find one false, say at which input.
  Laid BY PROGRAM, IN A SANDBOX (cutbox-rows.mjs): the forced cells as the released guide's own fill.sh prints them over the translation f3f3137e364cb8b4… (all of the seat's roots in one cut). By AI agents, Wed Nov 11 2026. No macro, syntax, notation, axiom, sorry.
-/
import Derived.Test.YtfcedhejbnoinaaChecked
import GoSem.Claim
import GoSem.ClaimJoined
import GoSem.ClaimMapViews
import Derived.JoinedTies
import Derived.KernelRfl
namespace Go.Proofs.Ytfcedhejbnoinaa
/- THE CELL 'sum', in the pinned program and in every row, IS THE sha256 OF THE DUMP (.gsa) THAT YtfcedhejbnoinaaProg.lean LOADS. Nothing in Lean hashes anything: it is a label: what it is worth is what the hold of that sum in a sandbox is worth. -/
noncomputable def Try.pinned : Pinned := { name := "ytfcedhejbnoinaa", sum := "f3f3137e364cb8b47bacf558cedd9a96e3cf8941df6ffcf80c3f24a7248da757", checked := Try.checked }
namespace Rows
def none {H : Type} : Left H := { results := [], args := [] }

/-- 'downpourlaw04.ReduceRows': WHATEVER THE INPUT: true; the input reads as it did. -/
def reduceRowsSpec : ChangeSpec := { name := "reduceRows", fn := fun _ => fun
  | [d] => { results := [.lit (.bool true)], args := [d] }
  | _ => none }
def reduceRowsRow : OpenClaim := { program := "ytfcedhejbnoinaa", sum := "f3f3137e364cb8b47bacf558cedd9a96e3cf8941df6ffcf80c3f24a7248da757", func := "downpour/downpourlaw04.ReduceRows", spec := "reduceRows", unfollowed := true, recurses := true, apart := false }
def ReduceRowsSaid : Prop := reduceRowsRow.holds Try.pinned (OpenSpec.ofChange reduceRowsSpec)

/-- ITS FALSE NEIGHBOUR: 'it returns false'. Refute it at one input. -/
def reduceRowsWrong : ChangeSpec := { name := "reduceRows", fn := fun _ => fun
  | [d] => { results := [.lit (.bool false)], args := [d] }
  | _ => none }
def ReduceRowsWrongFalsely : Prop := reduceRowsRow.holds Try.pinned (OpenSpec.ofChange reduceRowsWrong)

/-- 'downpourlaw04.ReduceUnique': WHATEVER THE INPUT: true; the input reads as it did. -/
def reduceUniqueSpec : ChangeSpec := { name := "reduceUnique", fn := fun _ => fun
  | [d1, d2, d3] => { results := [.lit (.bool true)], args := [d1, d2, d3] }
  | _ => none }
def reduceUniqueRow : OpenClaim := { program := "ytfcedhejbnoinaa", sum := "f3f3137e364cb8b47bacf558cedd9a96e3cf8941df6ffcf80c3f24a7248da757", func := "downpour/downpourlaw04.ReduceUnique", spec := "reduceUnique", unfollowed := true, recurses := true, apart := false }
def ReduceUniqueSaid : Prop := reduceUniqueRow.holds Try.pinned (OpenSpec.ofChange reduceUniqueSpec)

/-- ITS FALSE NEIGHBOUR: 'it returns false'. Refute it at one input. -/
def reduceUniqueWrong : ChangeSpec := { name := "reduceUnique", fn := fun _ => fun
  | [d1, d2, d3] => { results := [.lit (.bool false)], args := [d1, d2, d3] }
  | _ => none }
def ReduceUniqueWrongFalsely : Prop := reduceUniqueRow.holds Try.pinned (OpenSpec.ofChange reduceUniqueWrong)

/-- 'downpourlaw04.ReduceSpans': WHATEVER THE INPUT: true; the input reads as it did. -/
def reduceSpansSpec : ChangeSpec := { name := "reduceSpans", fn := fun _ => fun
  | [d1, d2] => { results := [.lit (.bool true)], args := [d1, d2] }
  | _ => none }
def reduceSpansRow : OpenClaim := { program := "ytfcedhejbnoinaa", sum := "f3f3137e364cb8b47bacf558cedd9a96e3cf8941df6ffcf80c3f24a7248da757", func := "downpour/downpourlaw04.ReduceSpans", spec := "reduceSpans", unfollowed := true, recurses := true, apart := false }
def ReduceSpansSaid : Prop := reduceSpansRow.holds Try.pinned (OpenSpec.ofChange reduceSpansSpec)

/-- ITS FALSE NEIGHBOUR: 'it returns false'. Refute it at one input. -/
def reduceSpansWrong : ChangeSpec := { name := "reduceSpans", fn := fun _ => fun
  | [d1, d2] => { results := [.lit (.bool false)], args := [d1, d2] }
  | _ => none }
def ReduceSpansWrongFalsely : Prop := reduceSpansRow.holds Try.pinned (OpenSpec.ofChange reduceSpansWrong)

/-- 'downpourlaw06.RandomNumbers': WHATEVER THE INPUT: true; the input reads as it did. -/
def randomNumbersSpec : ChangeSpec := { name := "randomNumbers", fn := fun _ => fun
  | [d1, d2, d3] => { results := [.lit (.bool true)], args := [d1, d2, d3] }
  | _ => none }
def randomNumbersRow : OpenClaim := { program := "ytfcedhejbnoinaa", sum := "f3f3137e364cb8b47bacf558cedd9a96e3cf8941df6ffcf80c3f24a7248da757", func := "downpour/downpourlaw06.RandomNumbers", spec := "randomNumbers", unfollowed := true, recurses := true, named := ["math/bits.divideError", "math/bits.overflowError"], apart := false }
def RandomNumbersSaid : Prop := randomNumbersRow.holds Try.pinned (OpenSpec.ofChange randomNumbersSpec)

/-- ITS FALSE NEIGHBOUR: 'it returns false'. Refute it at one input. -/
def randomNumbersWrong : ChangeSpec := { name := "randomNumbers", fn := fun _ => fun
  | [d1, d2, d3] => { results := [.lit (.bool false)], args := [d1, d2, d3] }
  | _ => none }
def RandomNumbersWrongFalsely : Prop := randomNumbersRow.holds Try.pinned (OpenSpec.ofChange randomNumbersWrong)

/- THE SECOND FORM. 'bulk': how many values and letters a reading holds, each counted each time it is reached (what is shared counts as often as it is met; a slice's spare places count too). A statement '..UptoSaid' is the law's where the arguments, and the package variables that the reading takes, are together of bulk at most 1048576: NARROWER than '..Said'. Prove '..Said' where nothing that the law and all that it calls make is longer than what came in: it says more and counts as full. Else prove '..UptoSaid'. A law counts once. -/
mutual
def uptoBulk {H : Type} : DataW H → Nat
  | .lit (.string bytes) => bytes.length + 1
  | .lit _ => 1
  | .nil => 1
  | .ptr d => uptoBulk d + 1
  | .slice elems spare => uptoBulkAll elems + uptoBulkAll spare + 1
  | .agg parts => uptoBulkAll parts + 1
  | .iface _ d => uptoBulk d + 1
  | .map entries => uptoBulkEntries entries + 1
  | .held _ => 1
def uptoBulkAll {H : Type} : List (DataW H) → Nat
  | [] => 0
  | d :: r => uptoBulk d + uptoBulkAll r
def uptoBulkEntries {H : Type} : List (Lit × DataW H) → Nat
  | [] => 0
  | x :: r => uptoBulkEntry x + uptoBulkEntries r
def uptoBulkEntry {H : Type} : Lit × DataW H → Nat
  | (.string bytes, d) => bytes.length + uptoBulk d + 1
  | (_, d) => uptoBulk d + 1
 end
def uptoSmall : (H : Type) → List (DataW H) → Bool := fun _ ds => decide (uptoBulkAll ds ≤ 1048576)
def OpenSpec.upto (s : _root_.Go.ChangeSpec) : _root_.Go.OpenSpec := { _root_.Go.OpenSpec.ofChange s with cond := some uptoSmall }

/-- 'downpourlaw04.ReduceRows', WHERE WHAT IT READS IS OF BULK AT MOST 1048576: true; the input reads as it did. -/
def reduceRowsUptoRow : OpenClaim := { program := "ytfcedhejbnoinaa", sum := "f3f3137e364cb8b47bacf558cedd9a96e3cf8941df6ffcf80c3f24a7248da757", func := "downpour/downpourlaw04.ReduceRows", spec := "reduceRows", unfollowed := true, recurses := true, apart := false, narrowed := true }
def ReduceRowsUptoSaid : Prop := reduceRowsUptoRow.holds Try.pinned (OpenSpec.upto reduceRowsSpec)

/-- 'downpourlaw04.ReduceUnique', WHERE WHAT IT READS IS OF BULK AT MOST 1048576: true; the input reads as it did. -/
def reduceUniqueUptoRow : OpenClaim := { program := "ytfcedhejbnoinaa", sum := "f3f3137e364cb8b47bacf558cedd9a96e3cf8941df6ffcf80c3f24a7248da757", func := "downpour/downpourlaw04.ReduceUnique", spec := "reduceUnique", unfollowed := true, recurses := true, apart := false, narrowed := true }
def ReduceUniqueUptoSaid : Prop := reduceUniqueUptoRow.holds Try.pinned (OpenSpec.upto reduceUniqueSpec)

/-- 'downpourlaw04.ReduceSpans', WHERE WHAT IT READS IS OF BULK AT MOST 1048576: true; the input reads as it did. -/
def reduceSpansUptoRow : OpenClaim := { program := "ytfcedhejbnoinaa", sum := "f3f3137e364cb8b47bacf558cedd9a96e3cf8941df6ffcf80c3f24a7248da757", func := "downpour/downpourlaw04.ReduceSpans", spec := "reduceSpans", unfollowed := true, recurses := true, apart := false, narrowed := true }
def ReduceSpansUptoSaid : Prop := reduceSpansUptoRow.holds Try.pinned (OpenSpec.upto reduceSpansSpec)

/-- 'downpourlaw06.RandomNumbers', WHERE WHAT IT READS IS OF BULK AT MOST 1048576: true; the input reads as it did. -/
def randomNumbersUptoRow : OpenClaim := { program := "ytfcedhejbnoinaa", sum := "f3f3137e364cb8b47bacf558cedd9a96e3cf8941df6ffcf80c3f24a7248da757", func := "downpour/downpourlaw06.RandomNumbers", spec := "randomNumbers", unfollowed := true, recurses := true, named := ["math/bits.divideError", "math/bits.overflowError"], apart := false, narrowed := true }
def RandomNumbersUptoSaid : Prop := randomNumbersUptoRow.holds Try.pinned (OpenSpec.upto randomNumbersSpec)

end Rows
end Go.Proofs.Ytfcedhejbnoinaa
