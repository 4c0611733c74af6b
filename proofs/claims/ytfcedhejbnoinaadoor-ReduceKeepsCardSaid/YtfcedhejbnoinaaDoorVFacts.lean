/- Closed facts of the whole program, which every row asks: each computed once. -/
import Derived.Test.YtfcedhejbnoinaaDoorRows
import Derived.JoinedOf
namespace Go.Proofs.YtfcedhejbnoinaaDoor.Facts
open Go
theorem andT {a b : Bool} (ha : a = true) (hb : b = true) : (a && b) = true := by rw [ha, hb]; rfl
theorem laidOut : laidOutB Tryd.prog = true := by kernel_rfl
theorem mapsRowed : mapsRowed Tryd.prog = true := by kernel_rfl
theorem stopsHeard : Tryd.prog.stopsHeard = true := by kernel_rfl
theorem mayEnter : Tryd.prog.mayEnter = true := by kernel_rfl
end Go.Proofs.YtfcedhejbnoinaaDoor.Facts
