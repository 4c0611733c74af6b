/- Closed facts of the whole program, which every row asks: each computed once. -/
import Derived.Test.YtfcedhejbnoinaaRows
import Derived.JoinedOf
namespace Go.Proofs.Ytfcedhejbnoinaa.Facts
open Go
theorem andT {a b : Bool} (ha : a = true) (hb : b = true) : (a && b) = true := by rw [ha, hb]; rfl
theorem laidOut : laidOutB Try.prog = true := by kernel_rfl
theorem mapsRowed : mapsRowed Try.prog = true := by kernel_rfl
theorem stopsHeard : Try.prog.stopsHeard = true := by kernel_rfl
theorem mayEnter : Try.prog.mayEnter = true := by kernel_rfl
end Go.Proofs.Ytfcedhejbnoinaa.Facts
