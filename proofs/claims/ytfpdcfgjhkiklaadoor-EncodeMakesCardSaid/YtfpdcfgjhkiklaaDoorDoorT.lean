/- The library's table, which the rows of a door seat list: what the listed condition gives the walks; a world that meets it; what a card asks of the parameters. -/
import Derived.Test.YtfpdcfgjhkiklaaDoorRows
import Derived.Test.YtfpdcfgjhkiklaaDoorBase
import Derived.Shelf.Spec.TrailingZeros
import Derived.ChangeSame
import Derived.ChangeVars
import Derived.JoinedOf
import Derived.RowKit
import Derived.RowKitTokens
import Derived.LaidLaws
import Derived.LaidHandle
import Derived.Lib.LaidTab
import Derived.SevenTiedAt
namespace Go.Proofs.YtfpdcfgjhkiklaaDoor.Door
open Go Go.ChangeShapes Go.WideShapes Go.RowKit Go.PM Go.Proofs.YtfpdcfgjhkiklaaDoor
theorem gT : Tryd.prog.globalNamed "math/bits.deBruijn64tab" = some 0 := by kernel_rfl
theorem gTType : (Tryd.prog.globals[0]?).map (·.type) = some 207 := by kernel_rfl
theorem cellsE : Tryd.prog.cellsOf 5 = 1 := by kernel_rfl
theorem cellsT : Tryd.prog.cellsOf 207 = 64 := by kernel_rfl
def zs : List Int := Lib.deBruijn64tab.map fun (n : Nat) => (n : Int)
theorem zs_at (j : Nat) : zs.getD j 0 = ((Lib.deBruijn64tab.getD j 0 : Nat) : Int) := by
  unfold zs
  rw [List.getD_eq_getElem?_getD, List.getElem?_map, List.getD_eq_getElem?_getD]
  cases Lib.deBruijn64tab[j]? <;> rfl
abbrev laid : List (String × DataW Unit) := [("math/bits.deBruijn64tab", Rows.laid_math_bits_deBruijn64tab)]
theorem datum : (Rows.laid_math_bits_deBruijn64tab : DataW Unit) = Lib.tabData .u8 zs := by rfl
/-- What the condition gives a walk. -/
theorem tab_of_laid {W : World} (h : laidMetH Tryd.prog laid W) : TabAt 0 Lib.deBruijn64tab W := by
  have h' : laidMet Tryd.prog (("math/bits.deBruijn64tab", Lib.tabData .u8 zs) :: []) W := by rw [← datum]; exact h
  have ht := Lib.tabIs_of_head gT gTType Tryd.underlying207 Tryd.underlying5 cellsE cellsT h'
  intro j hj
  have := ht.cell gT j (by unfold zs; rw [List.length_map]; exact hj)
  rw [zs_at] at this
  exact this
theorem glob_of_laid {W : World} (h : laidMetH Tryd.prog laid W) : GOk gTab (allB W) W := by
  intro b cs hb
  unfold gTab at hb
  split at hb
  · rename_i h0
    subst h0
    cases hb
    have ht := tab_of_laid h
    refine ⟨World.block_lt_of_cell? W _ (ht 0 (by decide)), fun j v hv => ?_⟩
    rw [List.getElem?_map] at hv
    by_cases hj : j < Lib.deBruijn64tab.length
    · have := ht j hj
      rw [List.getD_eq_getElem?_getD, List.getElem?_eq_getElem hj] at this
      rw [List.getElem?_eq_getElem hj] at hv
      cases hv
      exact this
    · rw [List.getElem?_eq_none (by omega)] at hv; cases hv
  · cases hb
/-- The settled world, the table's cells laid: the witness. -/
noncomputable def laidWorld (os : Os) : World :=
  { World.holding Tryd.prog os ⟨#[], #[], []⟩ with heap := (World.holding Tryd.prog os ⟨#[], #[], []⟩).heap.modify 0 fun
      | .cells _ t frozen => .cells (zs.map fun z => Value.int .u8 z).toArray t frozen
      | o => o }
theorem laidWorld_met (os : Os) (args : Array Value) : laidMetH Tryd.prog laid ((laidWorld os).forCall (fun _ _ => 0) ⟨#[], args, []⟩).memory :=
  show laidMet Tryd.prog laid _ from laidMet_of_run' 8 (by kernel_rfl) (by kernel_rfl)
theorem noStand {f : Func} (h : f.params.all (fun t => !Tryd.prog.wantsStandIn t) = true) (j : Nat) (t : TypeId) (ht : f.params[j]? = some t) : Tryd.prog.wantsStandIn t = false := by
  obtain ⟨hj, rfl⟩ := Array.getElem?_eq_some_iff.1 ht
  simpa using Array.all_eq_true.1 h j hj
end Go.Proofs.YtfpdcfgjhkiklaaDoor.Door
