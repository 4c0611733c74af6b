/- What the laws' arguments read as. -/
import Derived.Test.YtfcedhejbnoinaaDoorPKx0
import Derived.Test.YtfcedhejbnoinaaDoorVOpens
namespace Go.Proofs.YtfcedhejbnoinaaDoor.PK
open Go.RowKit Go.Proofs.YtfcedhejbnoinaaDoorW.PrintWords Go.Proofs.YtfcedhejbnoinaaDoorW.PrintLast Go.Proofs.YtfcedhejbnoinaaDoor
theorem cells3 : Tryd.prog.cellsOf 3 = 1 := by kernel_rfl
theorem cells23 : Tryd.prog.cellsOf 23 = 1 := by kernel_rfl
theorem cells25 : Tryd.prog.cellsOf 25 = 2 := by kernel_rfl
theorem cells53 : Tryd.prog.cellsOf 53 = 1 := by kernel_rfl
theorem cells55 : Tryd.prog.cellsOf 55 = 2 := by kernel_rfl
theorem cells90 : Tryd.prog.cellsOf 90 = 1 := by kernel_rfl
def Q25 (x : S25) : Prop := (Lit.int .i64 x.f0).wf = true ∧ (x.f1.length ≤ maxLen ∧ ∀ z0, z0 ∈ x.f1 → (Lit.int .u64 z0).wf = true)
theorem opens25 {W : World} : Opens.Opens Tryd.prog W k25 25 Q25 := Opens.opens_fields Tryd.underlying25 (fun enc n cs hl hf => by
 rw [cells25] at hl
 obtain ⟨y0, h0⟩ : ∃ y, DataW.trod enc Tryd.prog W 0 (fun _ => true) true n 3 ((cs.drop 0).take (Tryd.prog.cellsOf 3)) = some y := hf 0 _ rfl
 rw [cells3] at h0
 obtain ⟨x0, K0, Q0⟩ := (Opens.opens_int Tryd.underlying3) enc n _ _ h0
 obtain ⟨y1, h1⟩ : ∃ y, DataW.trod enc Tryd.prog W 0 (fun _ => true) true n 23 ((cs.drop 1).take (Tryd.prog.cellsOf 23)) = some y := hf 1 _ rfl
 rw [cells23] at h1
 obtain ⟨x1, K1, Q1⟩ := (Opens.opens_slice Tryd.underlying23 cells90 (Opens.opens_int Tryd.underlying90)) enc n _ _ h1
 rw [← Opens.split_last (o := 1) (k := 1) hl] at K1
 exact ⟨⟨x0, x1⟩, ⟨_, _, Opens.split_at cs 0 1, K0, K1⟩, Q0, Q1⟩)
def Q55 (x : S55) : Prop := (Lit.int .i64 x.f0).wf = true ∧ (x.f1.length ≤ maxLen ∧ ∀ z0, z0 ∈ x.f1 → Q25 z0)
theorem opens55 {W : World} : Opens.Opens Tryd.prog W k55 55 Q55 := Opens.opens_fields Tryd.underlying55 (fun enc n cs hl hf => by
 rw [cells55] at hl
 obtain ⟨y0, h0⟩ : ∃ y, DataW.trod enc Tryd.prog W 0 (fun _ => true) true n 3 ((cs.drop 0).take (Tryd.prog.cellsOf 3)) = some y := hf 0 _ rfl
 rw [cells3] at h0
 obtain ⟨x0, K0, Q0⟩ := (Opens.opens_int Tryd.underlying3) enc n _ _ h0
 obtain ⟨y1, h1⟩ : ∃ y, DataW.trod enc Tryd.prog W 0 (fun _ => true) true n 53 ((cs.drop 1).take (Tryd.prog.cellsOf 53)) = some y := hf 1 _ rfl
 rw [cells53] at h1
 obtain ⟨x1, K1, Q1⟩ := (Opens.opens_slice Tryd.underlying53 cells25 opens25) enc n _ _ h1
 rw [← Opens.split_last (o := 1) (k := 1) hl] at K1
 exact ⟨⟨x0, x1⟩, ⟨_, _, Opens.split_at cs 0 1, K0, K1⟩, Q0, Q1⟩)
end Go.Proofs.YtfcedhejbnoinaaDoor.PK
