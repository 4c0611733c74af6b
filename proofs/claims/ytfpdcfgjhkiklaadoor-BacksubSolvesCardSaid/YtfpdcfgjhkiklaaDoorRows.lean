/-
  NARROWER THAN 'FOR EVERY INPUT', by the rows' own cells (each row's printed sentence says how): InactiveMakes: laid · InactiveRight: laid · InactiveCovers: laid · BacksubSolves: laid · BacksubTold: laid · BacksubWrong: laid · PeelOrder: laid · EncodeMakes: laid · EncodeCuts: laid.
  DERIVED. THE GIVEN ROWS OF THIS SEAT. 9 by the template 'for every input the law returns true; each argument reads behind the call as it read before'; 0 by the template 'total and deterministic' (their statements: YtfpdcfgjhkiklaaDoorTotals.lean).
  GIVEN WITH THE SEED: the statements are not yours to turn. If you find one false, say at which input.
  Laid BY PROGRAM, IN A SANDBOX (cutbox-rows.mjs): the forced cells as the released guide's own fill.sh prints them over the translation 7d8656259e3c6b35… (all of the seat's roots in one cut). By AI agents, Wed Nov 11 2026. No macro, syntax, notation, axiom, sorry.
-/
import Derived.Test.YtfpdcfgjhkiklaaDoorChecked
import GoSem.PinnedTables
import GoSem.Claim
import GoSem.ClaimJoined
import GoSem.ClaimMapViews
import Derived.JoinedTies
import Derived.KernelRfl
namespace Go.Proofs.YtfpdcfgjhkiklaaDoor
/- THE CELL 'sum', in the pinned program and in every row, IS THE sha256 OF THE DUMP (.gsa) THAT YtfpdcfgjhkiklaaDoorProg.lean LOADS. Nothing in Lean hashes anything: it is a label: what it is worth is what the hold of that sum in a sandbox is worth. -/
noncomputable def Tryd.pinned : Pinned := { name := "ytfpdcfgjhkiklaadoor", sum := "7d8656259e3c6b3519217ceeec9945ca5037e4fafc0d0412d99db7d84e5ff15c", checked := Tryd.checked }
namespace Rows
def none {H : Type} : Left H := { results := [], args := [] }

/- WHAT THE LISTED PACKAGE-LEVEL VARIABLES READ AS WHEN THE CALL BEGINS. Each datum BY PROGRAM (the guide's laid-datum.mjs) off the statement by which the dump's own 'gosem.cut.vars' lays the variable. In a bare row this is a premise. The card (YtfpdcfgjhkiklaaDoorCards.lean) ties it to the program's text. -/
def laid_math_bits_deBruijn64tab {H : Type} : DataW H := .agg [.lit (.int .u8 0), .lit (.int .u8 1), .lit (.int .u8 56), .lit (.int .u8 2), .lit (.int .u8 57), .lit (.int .u8 49), .lit (.int .u8 28), .lit (.int .u8 3), .lit (.int .u8 61), .lit (.int .u8 58), .lit (.int .u8 42), .lit (.int .u8 50), .lit (.int .u8 38), .lit (.int .u8 29), .lit (.int .u8 17), .lit (.int .u8 4), .lit (.int .u8 62), .lit (.int .u8 47), .lit (.int .u8 59), .lit (.int .u8 36), .lit (.int .u8 45), .lit (.int .u8 43), .lit (.int .u8 51), .lit (.int .u8 22), .lit (.int .u8 53), .lit (.int .u8 39), .lit (.int .u8 33), .lit (.int .u8 30), .lit (.int .u8 24), .lit (.int .u8 18), .lit (.int .u8 12), .lit (.int .u8 5), .lit (.int .u8 63), .lit (.int .u8 55), .lit (.int .u8 48), .lit (.int .u8 27), .lit (.int .u8 60), .lit (.int .u8 41), .lit (.int .u8 37), .lit (.int .u8 16), .lit (.int .u8 46), .lit (.int .u8 35), .lit (.int .u8 44), .lit (.int .u8 21), .lit (.int .u8 52), .lit (.int .u8 32), .lit (.int .u8 23), .lit (.int .u8 11), .lit (.int .u8 54), .lit (.int .u8 26), .lit (.int .u8 40), .lit (.int .u8 15), .lit (.int .u8 34), .lit (.int .u8 20), .lit (.int .u8 31), .lit (.int .u8 10), .lit (.int .u8 25), .lit (.int .u8 14), .lit (.int .u8 19), .lit (.int .u8 9), .lit (.int .u8 13), .lit (.int .u8 8), .lit (.int .u8 7), .lit (.int .u8 6)]
def laid_unicode_utf8_acceptRanges {H : Type} : DataW H := .agg [.agg [.lit (.int .u8 128), .lit (.int .u8 191)], .agg [.lit (.int .u8 160), .lit (.int .u8 191)], .agg [.lit (.int .u8 128), .lit (.int .u8 159)], .agg [.lit (.int .u8 144), .lit (.int .u8 191)], .agg [.lit (.int .u8 128), .lit (.int .u8 143)], .agg [.lit (.int .u8 0), .lit (.int .u8 0)], .agg [.lit (.int .u8 0), .lit (.int .u8 0)], .agg [.lit (.int .u8 0), .lit (.int .u8 0)], .agg [.lit (.int .u8 0), .lit (.int .u8 0)], .agg [.lit (.int .u8 0), .lit (.int .u8 0)], .agg [.lit (.int .u8 0), .lit (.int .u8 0)], .agg [.lit (.int .u8 0), .lit (.int .u8 0)], .agg [.lit (.int .u8 0), .lit (.int .u8 0)], .agg [.lit (.int .u8 0), .lit (.int .u8 0)], .agg [.lit (.int .u8 0), .lit (.int .u8 0)], .agg [.lit (.int .u8 0), .lit (.int .u8 0)]]
/-- One of Go's own tables, pinned by name: the form's constant. -/
def laid_unicode_utf8_first : DataW Unit := Go.Pinned.utf8First

/-- 'downpourlaw16.InactiveMakes': WHATEVER THE INPUT: true; the input reads as it did. -/
def inactiveMakesSpec : ChangeSpec := { name := "inactiveMakes", fn := fun _ => fun
  | [d] => { results := [.lit (.bool true)], args := [d] }
  | _ => none }
def inactiveMakesRow : OpenClaim := { program := "ytfpdcfgjhkiklaadoor", sum := "7d8656259e3c6b3519217ceeec9945ca5037e4fafc0d0412d99db7d84e5ff15c", func := "downpour/downpourlaw16.InactiveMakes", spec := "inactiveMakes", unfollowed := true, recurses := true, named := ["math/bits.deBruijn64tab"], apart := false, laid := [("math/bits.deBruijn64tab", laid_math_bits_deBruijn64tab)] }
def InactiveMakesSaid : Prop := inactiveMakesRow.holds Tryd.pinned (OpenSpec.ofChange inactiveMakesSpec)

/-- ITS FALSE NEIGHBOUR: 'it returns false'. Refute it at one input. -/
def inactiveMakesWrong : ChangeSpec := { name := "inactiveMakes", fn := fun _ => fun
  | [d] => { results := [.lit (.bool false)], args := [d] }
  | _ => none }
def InactiveMakesWrongFalsely : Prop := inactiveMakesRow.holds Tryd.pinned (OpenSpec.ofChange inactiveMakesWrong)

/-- 'downpourlaw16.InactiveRight': WHATEVER THE INPUT: true; the input reads as it did. -/
def inactiveRightSpec : ChangeSpec := { name := "inactiveRight", fn := fun _ => fun
  | [d1, d2] => { results := [.lit (.bool true)], args := [d1, d2] }
  | _ => none }
def inactiveRightRow : OpenClaim := { program := "ytfpdcfgjhkiklaadoor", sum := "7d8656259e3c6b3519217ceeec9945ca5037e4fafc0d0412d99db7d84e5ff15c", func := "downpour/downpourlaw16.InactiveRight", spec := "inactiveRight", unfollowed := true, recurses := true, named := ["math/bits.deBruijn64tab"], apart := false, laid := [("math/bits.deBruijn64tab", laid_math_bits_deBruijn64tab)] }
def InactiveRightSaid : Prop := inactiveRightRow.holds Tryd.pinned (OpenSpec.ofChange inactiveRightSpec)

/-- ITS FALSE NEIGHBOUR: 'it returns false'. Refute it at one input. -/
def inactiveRightWrong : ChangeSpec := { name := "inactiveRight", fn := fun _ => fun
  | [d1, d2] => { results := [.lit (.bool false)], args := [d1, d2] }
  | _ => none }
def InactiveRightWrongFalsely : Prop := inactiveRightRow.holds Tryd.pinned (OpenSpec.ofChange inactiveRightWrong)

/-- 'downpourlaw16.InactiveCovers': WHATEVER THE INPUT: true; the input reads as it did. -/
def inactiveCoversSpec : ChangeSpec := { name := "inactiveCovers", fn := fun _ => fun
  | [d] => { results := [.lit (.bool true)], args := [d] }
  | _ => none }
def inactiveCoversRow : OpenClaim := { program := "ytfpdcfgjhkiklaadoor", sum := "7d8656259e3c6b3519217ceeec9945ca5037e4fafc0d0412d99db7d84e5ff15c", func := "downpour/downpourlaw16.InactiveCovers", spec := "inactiveCovers", unfollowed := true, recurses := true, named := ["math/bits.deBruijn64tab"], apart := false, laid := [("math/bits.deBruijn64tab", laid_math_bits_deBruijn64tab)] }
def InactiveCoversSaid : Prop := inactiveCoversRow.holds Tryd.pinned (OpenSpec.ofChange inactiveCoversSpec)

/-- ITS FALSE NEIGHBOUR: 'it returns false'. Refute it at one input. -/
def inactiveCoversWrong : ChangeSpec := { name := "inactiveCovers", fn := fun _ => fun
  | [d] => { results := [.lit (.bool false)], args := [d] }
  | _ => none }
def InactiveCoversWrongFalsely : Prop := inactiveCoversRow.holds Tryd.pinned (OpenSpec.ofChange inactiveCoversWrong)

/-- 'downpourlaw05.BacksubSolves': WHATEVER THE INPUT: true; the input reads as it did. -/
def backsubSolvesSpec : ChangeSpec := { name := "backsubSolves", fn := fun _ => fun
  | [d1, d2, d3] => { results := [.lit (.bool true)], args := [d1, d2, d3] }
  | _ => none }
def backsubSolvesRow : OpenClaim := { program := "ytfpdcfgjhkiklaadoor", sum := "7d8656259e3c6b3519217ceeec9945ca5037e4fafc0d0412d99db7d84e5ff15c", func := "downpour/downpourlaw05.BacksubSolves", spec := "backsubSolves", inPlace := ["internal/bytealg.IndexByteString", "internal/bytealg.IndexString"], unfollowed := true, recurses := true, named := ["unicode/utf8.first", "unicode/utf8.acceptRanges", "internal/bytealg.MaxLen"], apart := false, laid := [("unicode/utf8.acceptRanges", laid_unicode_utf8_acceptRanges), ("unicode/utf8.first", laid_unicode_utf8_first)] }
def BacksubSolvesSaid : Prop := backsubSolvesRow.holds Tryd.pinned (OpenSpec.ofChange backsubSolvesSpec)

/-- ITS FALSE NEIGHBOUR: 'it returns false'. Refute it at one input. -/
def backsubSolvesWrong : ChangeSpec := { name := "backsubSolves", fn := fun _ => fun
  | [d1, d2, d3] => { results := [.lit (.bool false)], args := [d1, d2, d3] }
  | _ => none }
def BacksubSolvesWrongFalsely : Prop := backsubSolvesRow.holds Tryd.pinned (OpenSpec.ofChange backsubSolvesWrong)

/-- 'downpourlaw05.BacksubTold': WHATEVER THE INPUT: true; the input reads as it did. -/
def backsubToldSpec : ChangeSpec := { name := "backsubTold", fn := fun _ => fun
  | [d1, d2, d3, d4] => { results := [.lit (.bool true)], args := [d1, d2, d3, d4] }
  | _ => none }
def backsubToldRow : OpenClaim := { program := "ytfpdcfgjhkiklaadoor", sum := "7d8656259e3c6b3519217ceeec9945ca5037e4fafc0d0412d99db7d84e5ff15c", func := "downpour/downpourlaw05.BacksubTold", spec := "backsubTold", inPlace := ["internal/bytealg.IndexByteString", "internal/bytealg.IndexString"], unfollowed := true, recurses := true, named := ["math/bits.deBruijn64tab", "unicode/utf8.first", "unicode/utf8.acceptRanges", "internal/bytealg.MaxLen"], apart := false, laid := [("math/bits.deBruijn64tab", laid_math_bits_deBruijn64tab), ("unicode/utf8.acceptRanges", laid_unicode_utf8_acceptRanges), ("unicode/utf8.first", laid_unicode_utf8_first)] }
def BacksubToldSaid : Prop := backsubToldRow.holds Tryd.pinned (OpenSpec.ofChange backsubToldSpec)

/-- ITS FALSE NEIGHBOUR: 'it returns false'. Refute it at one input. -/
def backsubToldWrong : ChangeSpec := { name := "backsubTold", fn := fun _ => fun
  | [d1, d2, d3, d4] => { results := [.lit (.bool false)], args := [d1, d2, d3, d4] }
  | _ => none }
def BacksubToldWrongFalsely : Prop := backsubToldRow.holds Tryd.pinned (OpenSpec.ofChange backsubToldWrong)

/-- 'downpourlaw05.BacksubWrong': WHATEVER THE INPUT: true; the input reads as it did. -/
def backsubWrongSpec : ChangeSpec := { name := "backsubWrong", fn := fun _ => fun
  | [d1, d2, d3, d4, d5] => { results := [.lit (.bool true)], args := [d1, d2, d3, d4, d5] }
  | _ => none }
def backsubWrongRow : OpenClaim := { program := "ytfpdcfgjhkiklaadoor", sum := "7d8656259e3c6b3519217ceeec9945ca5037e4fafc0d0412d99db7d84e5ff15c", func := "downpour/downpourlaw05.BacksubWrong", spec := "backsubWrong", inPlace := ["internal/bytealg.IndexByteString", "internal/bytealg.IndexString"], unfollowed := true, recurses := true, named := ["math/bits.deBruijn64tab", "unicode/utf8.first", "unicode/utf8.acceptRanges", "internal/bytealg.MaxLen"], apart := false, laid := [("math/bits.deBruijn64tab", laid_math_bits_deBruijn64tab), ("unicode/utf8.acceptRanges", laid_unicode_utf8_acceptRanges), ("unicode/utf8.first", laid_unicode_utf8_first)] }
def BacksubWrongSaid : Prop := backsubWrongRow.holds Tryd.pinned (OpenSpec.ofChange backsubWrongSpec)

/-- ITS FALSE NEIGHBOUR: 'it returns false'. Refute it at one input. -/
def backsubWrongWrong : ChangeSpec := { name := "backsubWrong", fn := fun _ => fun
  | [d1, d2, d3, d4, d5] => { results := [.lit (.bool false)], args := [d1, d2, d3, d4, d5] }
  | _ => none }
def BacksubWrongWrongFalsely : Prop := backsubWrongRow.holds Tryd.pinned (OpenSpec.ofChange backsubWrongWrong)

/-- 'downpourlaw15.PeelOrder': WHATEVER THE INPUT: true; the input reads as it did. -/
def peelOrderSpec : ChangeSpec := { name := "peelOrder", fn := fun _ => fun
  | [d1, d2, d3, d4] => { results := [.lit (.bool true)], args := [d1, d2, d3, d4] }
  | _ => none }
def peelOrderRow : OpenClaim := { program := "ytfpdcfgjhkiklaadoor", sum := "7d8656259e3c6b3519217ceeec9945ca5037e4fafc0d0412d99db7d84e5ff15c", func := "downpour/downpourlaw15.PeelOrder", spec := "peelOrder", inPlace := ["internal/bytealg.IndexByteString", "internal/bytealg.IndexString"], unfollowed := true, recurses := true, named := ["math/bits.deBruijn64tab", "unicode/utf8.first", "unicode/utf8.acceptRanges", "internal/bytealg.MaxLen"], apart := false, laid := [("math/bits.deBruijn64tab", laid_math_bits_deBruijn64tab), ("unicode/utf8.acceptRanges", laid_unicode_utf8_acceptRanges), ("unicode/utf8.first", laid_unicode_utf8_first)] }
def PeelOrderSaid : Prop := peelOrderRow.holds Tryd.pinned (OpenSpec.ofChange peelOrderSpec)

/-- ITS FALSE NEIGHBOUR: 'it returns false'. Refute it at one input. -/
def peelOrderWrong : ChangeSpec := { name := "peelOrder", fn := fun _ => fun
  | [d1, d2, d3, d4] => { results := [.lit (.bool false)], args := [d1, d2, d3, d4] }
  | _ => none }
def PeelOrderWrongFalsely : Prop := peelOrderRow.holds Tryd.pinned (OpenSpec.ofChange peelOrderWrong)

/-- 'downpourlaw09.EncodeMakes': WHATEVER THE INPUT: true; the input reads as it did. -/
def encodeMakesSpec : ChangeSpec := { name := "encodeMakes", fn := fun _ => fun
  | [d1, d2, d3] => { results := [.lit (.bool true)], args := [d1, d2, d3] }
  | _ => none }
def encodeMakesRow : OpenClaim := { program := "ytfpdcfgjhkiklaadoor", sum := "7d8656259e3c6b3519217ceeec9945ca5037e4fafc0d0412d99db7d84e5ff15c", func := "downpour/downpourlaw09.EncodeMakes", spec := "encodeMakes", unfollowed := true, recurses := true, named := ["math/bits.divideError", "math/bits.overflowError", "math/bits.deBruijn64tab"], apart := false, laid := [("math/bits.deBruijn64tab", laid_math_bits_deBruijn64tab)] }
def EncodeMakesSaid : Prop := encodeMakesRow.holds Tryd.pinned (OpenSpec.ofChange encodeMakesSpec)

/-- ITS FALSE NEIGHBOUR: 'it returns false'. Refute it at one input. -/
def encodeMakesWrong : ChangeSpec := { name := "encodeMakes", fn := fun _ => fun
  | [d1, d2, d3] => { results := [.lit (.bool false)], args := [d1, d2, d3] }
  | _ => none }
def EncodeMakesWrongFalsely : Prop := encodeMakesRow.holds Tryd.pinned (OpenSpec.ofChange encodeMakesWrong)

/-- 'downpourlaw09.EncodeCuts': WHATEVER THE INPUT: true; the input reads as it did. -/
def encodeCutsSpec : ChangeSpec := { name := "encodeCuts", fn := fun _ => fun
  | [d1, d2, d3, d4] => { results := [.lit (.bool true)], args := [d1, d2, d3, d4] }
  | _ => none }
def encodeCutsRow : OpenClaim := { program := "ytfpdcfgjhkiklaadoor", sum := "7d8656259e3c6b3519217ceeec9945ca5037e4fafc0d0412d99db7d84e5ff15c", func := "downpour/downpourlaw09.EncodeCuts", spec := "encodeCuts", inPlace := ["internal/abi.NoEscape", "internal/bytealg.MakeNoZero"], unfollowed := true, recurses := true, named := ["math/bits.divideError", "math/bits.overflowError", "math/bits.deBruijn64tab"], apart := false, laid := [("math/bits.deBruijn64tab", laid_math_bits_deBruijn64tab)] }
def EncodeCutsSaid : Prop := encodeCutsRow.holds Tryd.pinned (OpenSpec.ofChange encodeCutsSpec)

/-- ITS FALSE NEIGHBOUR: 'it returns false'. Refute it at one input. -/
def encodeCutsWrong : ChangeSpec := { name := "encodeCuts", fn := fun _ => fun
  | [d1, d2, d3, d4] => { results := [.lit (.bool false)], args := [d1, d2, d3, d4] }
  | _ => none }
def EncodeCutsWrongFalsely : Prop := encodeCutsRow.holds Tryd.pinned (OpenSpec.ofChange encodeCutsWrong)

/- THE SECOND FORM. 'bulk': how many values and letters a reading holds, each counted each time it is reached (what is shared counts as often as it is met; a slice's spare places count too). A statement '..UptoSaid' is the law's where the arguments, and the package variables that the reading takes, are together of bulk at most 1048576: NARROWER than '..Said'. Prove '..Said' where nothing that the law and all that it calls make is longer than what came in: it says more and counts as full. Else prove '..UptoSaid'. A law counts once. -/
mutual
def uptoBulk {H : Type} : DataW H → Nat
  | .lit (.string bytes) => bytes.length + 1
  | .lit _ => 1
  | .nil => 1
  | .ptr d => uptoBulk d + 1
  | .slice elems spare => uptoBulkAll elems + uptoBulkAll spare + 1
  | .agg parts => uptoBulkAll parts + 1
  | .iface _ d => uptoBulk d + 1
  | .map entries => uptoBulkEntries entries + 1
  | .held _ => 1
def uptoBulkAll {H : Type} : List (DataW H) → Nat
  | [] => 0
  | d :: r => uptoBulk d + uptoBulkAll r
def uptoBulkEntries {H : Type} : List (Lit × DataW H) → Nat
  | [] => 0
  | x :: r => uptoBulkEntry x + uptoBulkEntries r
def uptoBulkEntry {H : Type} : Lit × DataW H → Nat
  | (.string bytes, d) => bytes.length + uptoBulk d + 1
  | (_, d) => uptoBulk d + 1
 end
def uptoSmall : (H : Type) → List (DataW H) → Bool := fun _ ds => decide (uptoBulkAll ds ≤ 1048576)
def OpenSpec.upto (s : _root_.Go.ChangeSpec) : _root_.Go.OpenSpec := { _root_.Go.OpenSpec.ofChange s with cond := some uptoSmall }

/-- 'downpourlaw16.InactiveMakes', WHERE WHAT IT READS IS OF BULK AT MOST 1048576: true; the input reads as it did. -/
def inactiveMakesUptoRow : OpenClaim := { program := "ytfpdcfgjhkiklaadoor", sum := "7d8656259e3c6b3519217ceeec9945ca5037e4fafc0d0412d99db7d84e5ff15c", func := "downpour/downpourlaw16.InactiveMakes", spec := "inactiveMakes", unfollowed := true, recurses := true, named := ["math/bits.deBruijn64tab"], apart := false, laid := [("math/bits.deBruijn64tab", laid_math_bits_deBruijn64tab)], narrowed := true }
def InactiveMakesUptoSaid : Prop := inactiveMakesUptoRow.holds Tryd.pinned (OpenSpec.upto inactiveMakesSpec)

/-- 'downpourlaw16.InactiveRight', WHERE WHAT IT READS IS OF BULK AT MOST 1048576: true; the input reads as it did. -/
def inactiveRightUptoRow : OpenClaim := { program := "ytfpdcfgjhkiklaadoor", sum := "7d8656259e3c6b3519217ceeec9945ca5037e4fafc0d0412d99db7d84e5ff15c", func := "downpour/downpourlaw16.InactiveRight", spec := "inactiveRight", unfollowed := true, recurses := true, named := ["math/bits.deBruijn64tab"], apart := false, laid := [("math/bits.deBruijn64tab", laid_math_bits_deBruijn64tab)], narrowed := true }
def InactiveRightUptoSaid : Prop := inactiveRightUptoRow.holds Tryd.pinned (OpenSpec.upto inactiveRightSpec)

/-- 'downpourlaw16.InactiveCovers', WHERE WHAT IT READS IS OF BULK AT MOST 1048576: true; the input reads as it did. -/
def inactiveCoversUptoRow : OpenClaim := { program := "ytfpdcfgjhkiklaadoor", sum := "7d8656259e3c6b3519217ceeec9945ca5037e4fafc0d0412d99db7d84e5ff15c", func := "downpour/downpourlaw16.InactiveCovers", spec := "inactiveCovers", unfollowed := true, recurses := true, named := ["math/bits.deBruijn64tab"], apart := false, laid := [("math/bits.deBruijn64tab", laid_math_bits_deBruijn64tab)], narrowed := true }
def InactiveCoversUptoSaid : Prop := inactiveCoversUptoRow.holds Tryd.pinned (OpenSpec.upto inactiveCoversSpec)

/-- 'downpourlaw05.BacksubSolves', WHERE WHAT IT READS IS OF BULK AT MOST 1048576: true; the input reads as it did. -/
def backsubSolvesUptoRow : OpenClaim := { program := "ytfpdcfgjhkiklaadoor", sum := "7d8656259e3c6b3519217ceeec9945ca5037e4fafc0d0412d99db7d84e5ff15c", func := "downpour/downpourlaw05.BacksubSolves", spec := "backsubSolves", inPlace := ["internal/bytealg.IndexByteString", "internal/bytealg.IndexString"], unfollowed := true, recurses := true, named := ["unicode/utf8.first", "unicode/utf8.acceptRanges", "internal/bytealg.MaxLen"], apart := false, laid := [("unicode/utf8.acceptRanges", laid_unicode_utf8_acceptRanges), ("unicode/utf8.first", laid_unicode_utf8_first)], narrowed := true }
def BacksubSolvesUptoSaid : Prop := backsubSolvesUptoRow.holds Tryd.pinned (OpenSpec.upto backsubSolvesSpec)

/-- 'downpourlaw05.BacksubTold', WHERE WHAT IT READS IS OF BULK AT MOST 1048576: true; the input reads as it did. -/
def backsubToldUptoRow : OpenClaim := { program := "ytfpdcfgjhkiklaadoor", sum := "7d8656259e3c6b3519217ceeec9945ca5037e4fafc0d0412d99db7d84e5ff15c", func := "downpour/downpourlaw05.BacksubTold", spec := "backsubTold", inPlace := ["internal/bytealg.IndexByteString", "internal/bytealg.IndexString"], unfollowed := true, recurses := true, named := ["math/bits.deBruijn64tab", "unicode/utf8.first", "unicode/utf8.acceptRanges", "internal/bytealg.MaxLen"], apart := false, laid := [("math/bits.deBruijn64tab", laid_math_bits_deBruijn64tab), ("unicode/utf8.acceptRanges", laid_unicode_utf8_acceptRanges), ("unicode/utf8.first", laid_unicode_utf8_first)], narrowed := true }
def BacksubToldUptoSaid : Prop := backsubToldUptoRow.holds Tryd.pinned (OpenSpec.upto backsubToldSpec)

/-- 'downpourlaw05.BacksubWrong', WHERE WHAT IT READS IS OF BULK AT MOST 1048576: true; the input reads as it did. -/
def backsubWrongUptoRow : OpenClaim := { program := "ytfpdcfgjhkiklaadoor", sum := "7d8656259e3c6b3519217ceeec9945ca5037e4fafc0d0412d99db7d84e5ff15c", func := "downpour/downpourlaw05.BacksubWrong", spec := "backsubWrong", inPlace := ["internal/bytealg.IndexByteString", "internal/bytealg.IndexString"], unfollowed := true, recurses := true, named := ["math/bits.deBruijn64tab", "unicode/utf8.first", "unicode/utf8.acceptRanges", "internal/bytealg.MaxLen"], apart := false, laid := [("math/bits.deBruijn64tab", laid_math_bits_deBruijn64tab), ("unicode/utf8.acceptRanges", laid_unicode_utf8_acceptRanges), ("unicode/utf8.first", laid_unicode_utf8_first)], narrowed := true }
def BacksubWrongUptoSaid : Prop := backsubWrongUptoRow.holds Tryd.pinned (OpenSpec.upto backsubWrongSpec)

/-- 'downpourlaw15.PeelOrder', WHERE WHAT IT READS IS OF BULK AT MOST 1048576: true; the input reads as it did. -/
def peelOrderUptoRow : OpenClaim := { program := "ytfpdcfgjhkiklaadoor", sum := "7d8656259e3c6b3519217ceeec9945ca5037e4fafc0d0412d99db7d84e5ff15c", func := "downpour/downpourlaw15.PeelOrder", spec := "peelOrder", inPlace := ["internal/bytealg.IndexByteString", "internal/bytealg.IndexString"], unfollowed := true, recurses := true, named := ["math/bits.deBruijn64tab", "unicode/utf8.first", "unicode/utf8.acceptRanges", "internal/bytealg.MaxLen"], apart := false, laid := [("math/bits.deBruijn64tab", laid_math_bits_deBruijn64tab), ("unicode/utf8.acceptRanges", laid_unicode_utf8_acceptRanges), ("unicode/utf8.first", laid_unicode_utf8_first)], narrowed := true }
def PeelOrderUptoSaid : Prop := peelOrderUptoRow.holds Tryd.pinned (OpenSpec.upto peelOrderSpec)

/-- 'downpourlaw09.EncodeMakes', WHERE WHAT IT READS IS OF BULK AT MOST 1048576: true; the input reads as it did. -/
def encodeMakesUptoRow : OpenClaim := { program := "ytfpdcfgjhkiklaadoor", sum := "7d8656259e3c6b3519217ceeec9945ca5037e4fafc0d0412d99db7d84e5ff15c", func := "downpour/downpourlaw09.EncodeMakes", spec := "encodeMakes", unfollowed := true, recurses := true, named := ["math/bits.divideError", "math/bits.overflowError", "math/bits.deBruijn64tab"], apart := false, laid := [("math/bits.deBruijn64tab", laid_math_bits_deBruijn64tab)], narrowed := true }
def EncodeMakesUptoSaid : Prop := encodeMakesUptoRow.holds Tryd.pinned (OpenSpec.upto encodeMakesSpec)

/-- 'downpourlaw09.EncodeCuts', WHERE WHAT IT READS IS OF BULK AT MOST 1048576: true; the input reads as it did. -/
def encodeCutsUptoRow : OpenClaim := { program := "ytfpdcfgjhkiklaadoor", sum := "7d8656259e3c6b3519217ceeec9945ca5037e4fafc0d0412d99db7d84e5ff15c", func := "downpour/downpourlaw09.EncodeCuts", spec := "encodeCuts", inPlace := ["internal/abi.NoEscape", "internal/bytealg.MakeNoZero"], unfollowed := true, recurses := true, named := ["math/bits.divideError", "math/bits.overflowError", "math/bits.deBruijn64tab"], apart := false, laid := [("math/bits.deBruijn64tab", laid_math_bits_deBruijn64tab)], narrowed := true }
def EncodeCutsUptoSaid : Prop := encodeCutsUptoRow.holds Tryd.pinned (OpenSpec.upto encodeCutsSpec)

end Rows
end Go.Proofs.YtfpdcfgjhkiklaaDoor
