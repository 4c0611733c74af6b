/- A table of the library's, as its variable holds it (block 0: the global's number in the seat .D). -/
import Derived.Shelf.Spec.TrailingZeros
import Derived.WalkKit
namespace Go.Proofs.YtfcedhejbnoinaaDoorW.PrintLast
open Go Go.RowKit Go.Proofs
/-- The library's table lies in its variable. -/
def TabOk (w : World) : Prop := TabAt 0 Lib.deBruijn64tab w
theorem TabOk.below {w W : World} (h : TabOk w) (hb : Below w.heap.size w W) : TabOk W := fun j hj => (hb.cell (World.block_lt_of_cell? w _ (h j hj))).trans (h j hj)
end Go.Proofs.YtfcedhejbnoinaaDoorW.PrintLast
