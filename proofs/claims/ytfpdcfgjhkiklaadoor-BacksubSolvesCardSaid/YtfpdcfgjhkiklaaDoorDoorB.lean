/- The library's tables of utf8, which the rows list (nothing here hangs on them): a world that meets them; what a card asks of the parameters. -/
import Derived.Test.YtfpdcfgjhkiklaaDoorRows
import Derived.Test.YtfpdcfgjhkiklaaDoorPmTab
import Derived.Lib.LaidU8
import Derived.ChangeSame
import Derived.ChangeVars
import Derived.JoinedOf
import Derived.RowKit
import Derived.RowKitTokens
import Derived.LaidLaws
import Derived.LaidHandle
import Derived.Lib.LaidTab
import Derived.SevenTiedAt
namespace Go.Proofs.YtfpdcfgjhkiklaaDoor.DoorB
open Go Go.ChangeShapes Go.WideShapes Go.RowKit Go.PM Go.Proofs.YtfpdcfgjhkiklaaDoor
abbrev laid : List (String × DataW Unit) := [("unicode/utf8.acceptRanges", Rows.laid_unicode_utf8_acceptRanges), ("unicode/utf8.first", Rows.laid_unicode_utf8_first)]
/-- The settled world, the tables' cells laid: the witness. -/
noncomputable def laidWorld (os : Os) : World :=
  let w0 := World.holding Tryd.prog os ⟨#[], #[], []⟩
  let put (h : Array Obj) (n : String) (cs : Array Value) : Array Obj := match Tryd.prog.globalNamed n with
    | some g => h.modify g fun
      | .cells _ t frozen => .cells cs t frozen
      | o => o
    | none => h
  let h1 := put w0.heap "unicode/utf8.first" (Lib.firstTab.map fun z => Value.int .u8 z).toArray
  let h2 := put h1 "unicode/utf8.acceptRanges" ((List.range 16).flatMap fun i => [Value.int .u8 (Lib.accLo i), Value.int .u8 (Lib.accHi i)]).toArray
  { w0 with heap := h2 }
theorem laidWorld_met (os : Os) (args : Array Value) : laidMetH Tryd.prog laid ((laidWorld os).forCall (fun _ _ => 0) ⟨#[], args, []⟩).memory :=
  show laidMet Tryd.prog laid _ from laidMet_of_run' 8 (by kernel_rfl) (by kernel_rfl)
theorem glob_of_laid {W : World} (h : laidMetH Tryd.prog laid W) : GOk (fun _ => none) (allB W) W := fun _ _ hb => by cases hb
theorem noStand {f : Func} (h : f.params.all (fun t => !Tryd.prog.wantsStandIn t) = true) (j : Nat) (t : TypeId) (ht : f.params[j]? = some t) : Tryd.prog.wantsStandIn t = false := by
  obtain ⟨hj, rfl⟩ := Array.getElem?_eq_some_iff.1 ht
  simpa using Array.all_eq_true.1 h j hj
end Go.Proofs.YtfpdcfgjhkiklaaDoor.DoorB
